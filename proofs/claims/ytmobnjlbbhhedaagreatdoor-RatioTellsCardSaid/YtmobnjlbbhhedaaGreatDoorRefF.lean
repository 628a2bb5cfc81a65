/- The walks of outriggerref02's numbers with a sign: Neg, Sign. -/
import Derived.Test.YtmobnjlbbhhedaaGreatDoorRefFa
import Derived.Test.YtmobnjlbbhhedaaGreatDoorRefD
import Derived.Deep.RegionWith
set_option linter.unusedVariables false
set_option linter.unusedSimpArgs false
namespace Go.Proofs.YtmobnjlbbhhedaaGreatDoor
open Go.RowKit

set_option maxRecDepth 100000 in
theorem neg_calls (v : Value) (Z : Int) (L : Nat) (w : World) (h : RNum w v Z L) :
    Calls Tryz.prog 87 #[v] w fun e w' => ∃ v, e = .returned v ∧ RNum w' v (-Z) L ∧ Below w.heap.size w w' := by
  obtain ⟨neg, A, m, c, X, rfl, hN, hl, hm, hZ, hpos⟩ := h
  have H := Lib.hid hN
  clear hN hl
  go_enter Tryz.func87, Tryz.ntmps87
  go_wp2_with fail
  have hb0 : Below w.heap.size w ((w.alloc (.cells #[.bool neg, .slice A m c] 36)).alloc (.cells #[.bool false, .slice none 0 0] 36)) := ((Below.refl _ w).alloc (Nat.le_refl _) _).alloc (by simp) _
  refine (new_calls (!neg) (.slice A m c) X m _ (H.out.below hb0)).mono ?_
  rintro e w1 ⟨v1, rfl, hR, hb1⟩
  have hZ' : (if (!neg) = true then -(X : Int) else (X : Int)) = -Z := by
    rw [hZ]
    cases neg <;> simp
  rw [hZ'] at hR
  obtain ⟨b1, A1, m1, c1, rfl⟩ := hR.form
  have hblk : w1.heap[w.heap.size + 1]? = some (.cells #[.bool false, .slice none 0 0] 36 (0, 0)) := (hb1.block _ (by simp)).trans (alloc_at (by simp))
  have hput := Lib.hid (RNum.put (hb0.trans (hb1.mono (by simp; omega))) (by omega) hblk (hR.le hm))
  obtain ⟨k0, k1, k2, k3⟩ := kept_cells hblk
  have kr := Lib.hid (kept_reads hblk (.bool b1) (.slice A1 m1 c1))
  clear hb0 hb1 hR hZ hZ' hpos H hblk
  go_wp2_with fail
  obtain ⟨q0, q1⟩ := kr.out
  refine bodyPost_ret (v := .agg #[.bool b1, .slice A1 m1 c1]) (by simp [results, Tryz.results87, go_sem, q0, q1]) rfl ?_
  exact ⟨_, rfl, hput.out.1, hput.out.2⟩
set_option maxRecDepth 100000 in
theorem sign_calls (v : Value) (Z : Int) (L : Nat) (w : World) (h : RNum w v Z L) :
    Calls Tryz.prog 12 #[v] w fun e w' => e = .returned (.int .i64 (if Z < 0 then -1 else if Z = 0 then 0 else 1)) ∧ Below w.heap.size w w' := by
  obtain ⟨neg, A, m, c, X, rfl, hN, hl, hm, hZ, hpos⟩ := h
  have hp := hl.pos_iff
  clear hN hl
  cases neg with
  | false =>
    by_cases h0 : m = 0
    · have e : (if Z < 0 then -1 else if Z = 0 then (0 : Int) else 1) = 0 := by
        simp only [Bool.false_eq_true, if_false] at hZ
        rw [if_neg (by omega), if_pos (by omega)]
      rw [e]
      subst h0
      go_enter Tryz.func12, Tryz.ntmps12
      go_wp2_with fail
      go_ret
      exact ⟨rfl, (Below.refl _ _).alloc (Nat.le_refl _) _⟩
    · have e : (if Z < 0 then -1 else if Z = 0 then (0 : Int) else 1) = 1 := by
        simp only [Bool.false_eq_true, if_false] at hZ
        rw [if_neg (by omega), if_neg (by omega)]
      rw [e]
      have hb : ((m : Int) == 0) = false := by simp; omega
      go_enter Tryz.func12, Tryz.ntmps12
      go_wp2_with fail
      go_ret
      exact ⟨rfl, (Below.refl _ _).alloc (Nat.le_refl _) _⟩
  | true =>
    have hX := hpos rfl
    have e : (if Z < 0 then -1 else if Z = 0 then (0 : Int) else 1) = -1 := by
      simp only [if_true] at hZ
      rw [if_pos (by omega)]
    rw [e]
    have hb : ((m : Int) == 0) = false := by simp; omega
    go_enter Tryz.func12, Tryz.ntmps12
    go_wp2_with fail
    go_ret
    exact ⟨rfl, (Below.refl _ _).alloc (Nat.le_refl _) _⟩
end Go.Proofs.YtmobnjlbbhhedaaGreatDoor
