/- The walks of outriggerref02's Add, Sub, Mul, Shl, Cmp, From2. -/
import Derived.Test.YtmobnjlbbhhedaaGreatDoorRefF
import Derived.Deep.RegionHeld3
set_option linter.unusedVariables false
set_option linter.unusedSimpArgs false
namespace Go.Proofs.YtmobnjlbbhhedaaGreatDoor
open Go.RowKit

theorem RNum.drew {w : World} {v : Value} {Z : Int} {L : Nat} (h : RNum w v Z L) : RNum w.drew v Z L := by
  obtain ⟨neg, A, m, c, X, e, h1, h2⟩ := h
  exact ⟨neg, A, m, c, X, e, h1, h2⟩
theorem put_far {w1 : World} {g : Nat} {a : Addr} {u v x : Value} (h : w1.cell? a = some x) (hne : g ≠ a.block) : ((w1.setCell ⟨g, 0, none⟩ u).setCell ⟨g, 1, none⟩ v).cell? a = some x := by
  rw [World.cell?_setCell_far _ _ _ _ hne, World.cell?_setCell_far _ _ _ _ hne]
  exact h
theorem add_len {X Y m m' r : Nat} (hx : X < B16 ^ m) (hy : Y < B16 ^ m') (h : IsLen B16 (X + Y) r) : r ≤ max m m' + 1 := by
  refine h.2 _ ?_
  have h1 := Nat.lt_of_lt_of_le hx (Nat.pow_le_pow_right B16_pos (Nat.le_max_left m m'))
  have h2 := Nat.lt_of_lt_of_le hy (Nat.pow_le_pow_right B16_pos (Nat.le_max_right m m'))
  rw [Nat.pow_succ]
  generalize B16 ^ max m m' = b at *
  unfold B16
  omega
theorem sub_len {X Y m r : Nat} (hx : X < B16 ^ m) (h : IsLen B16 (X - Y) r) : r ≤ m := h.2 _ (by omega)
theorem mul_len {X Y m m' r : Nat} (hx : X < B16 ^ m) (hy : Y < B16 ^ m') (h : IsLen B16 (X * Y) r) : r ≤ m + m' := by
  refine h.2 _ ?_
  rw [Nat.pow_add]
  exact Nat.mul_lt_mul'' hx hy

/-- What a call of two such numbers begins with. -/
theorem enter3 (w : World) (na : Bool) (A : Option Addr) (m c : Nat) (nb : Bool) (B : Option Addr) (m' c' : Nat) :
    Hid (Below w.heap.size w (((w.alloc (.cells #[.bool na, .slice A m c] 36)).alloc (.cells #[.bool nb, .slice B m' c'] 36)).alloc (.cells #[.bool false, .slice none 0 0] 36))) ∧ ((((w.alloc (.cells #[.bool na, .slice A m c] 36)).alloc (.cells #[.bool nb, .slice B m' c'] 36)).alloc (.cells #[.bool false, .slice none 0 0] 36))).cell? ⟨w.heap.size, 0, none⟩ = some (.bool na) ∧ ((((w.alloc (.cells #[.bool na, .slice A m c] 36)).alloc (.cells #[.bool nb, .slice B m' c'] 36)).alloc (.cells #[.bool false, .slice none 0 0] 36))).cell? ⟨w.heap.size, 1, none⟩ = some (.slice A m c) ∧ ((((w.alloc (.cells #[.bool na, .slice A m c] 36)).alloc (.cells #[.bool nb, .slice B m' c'] 36)).alloc (.cells #[.bool false, .slice none 0 0] 36))).cell? ⟨w.heap.size + 1, 0, none⟩ = some (.bool nb) ∧ ((((w.alloc (.cells #[.bool na, .slice A m c] 36)).alloc (.cells #[.bool nb, .slice B m' c'] 36)).alloc (.cells #[.bool false, .slice none 0 0] 36))).cell? ⟨w.heap.size + 1, 1, none⟩ = some (.slice B m' c') ∧
      Hid (((((w.alloc (.cells #[.bool na, .slice A m c] 36)).alloc (.cells #[.bool nb, .slice B m' c'] 36)).alloc (.cells #[.bool false, .slice none 0 0] 36))).heap[w.heap.size + 1 + 1]? = some (.cells #[.bool false, .slice none 0 0] 36 (0, 0))) ∧ w.heap.size + 1 + 1 < ((((w.alloc (.cells #[.bool na, .slice A m c] 36)).alloc (.cells #[.bool nb, .slice B m' c'] 36)).alloc (.cells #[.bool false, .slice none 0 0] 36))).heap.size := by
  obtain ⟨a0, a1, _, _⟩ := kept_cells (w1 := (((w.alloc (.cells #[.bool na, .slice A m c] 36)).alloc (.cells #[.bool nb, .slice B m' c'] 36)).alloc (.cells #[.bool false, .slice none 0 0] 36))) (g := w.heap.size) (b0 := na) (A0 := A) (m0 := m) (c0 := c) (t := 36) (((Below.refl (w.heap.size + 1) _).alloc (by simp <;> omega) _).block _ (by omega) |>.trans ((((Below.refl (w.heap.size + 1) _).alloc (by simp) _).block _ (by omega)).trans (alloc_at rfl)))
  obtain ⟨b0, b1, _, _⟩ := kept_cells (w1 := (((w.alloc (.cells #[.bool na, .slice A m c] 36)).alloc (.cells #[.bool nb, .slice B m' c'] 36)).alloc (.cells #[.bool false, .slice none 0 0] 36))) (g := w.heap.size + 1) (b0 := nb) (A0 := B) (m0 := m') (c0 := c') (t := 36) ((((Below.refl (w.heap.size + 2) _).alloc (by simp) _).block _ (by omega)).trans (alloc_at (by simp)))
  exact ⟨(((Below.refl _ w).alloc (Nat.le_refl _) _).alloc (by simp) _).alloc (by simp; omega) _, a0, a1, b0, b1, alloc_at (by simp), by simp⟩

set_option maxHeartbeats 2000000 in
set_option maxRecDepth 100000 in
theorem addz_calls (v u : Value) (Za Zb : Int) (La Lb : Nat) (w : World) (h : RNum w v Za La) (k : RNum w u Zb Lb) (hLa : La ≤ 20000) (hLb : Lb ≤ 20000) :
    Calls Tryz.prog 86 #[v, u] w fun e w' => ∃ r, e = .returned r ∧ RNum w' r (Za + Zb) (max La Lb + 1) ∧ Below w.heap.size w w' := by
  obtain ⟨na, A, m, c, X, rfl, hNa, hla, hma, hZa, hpa⟩ := h
  obtain ⟨nb, B, m', c', Y, rfl, hNb, hlb, hmb, hZb, hpb⟩ := k
  have Ha := Lib.hid hNa
  have Hb := Lib.hid hNb
  have hX := Lib.hid hla.1
  have hY := Lib.hid hlb.1
  clear hNa hNb hla hlb hpa hpb
  by_cases hs : na = nb
  · subst hs
    have hZ : Hid ((if na = true then -((X + Y : Nat) : Int) else ((X + Y : Nat) : Int)) = Za + Zb) := by
      show _ = _
      rw [hZa, hZb]
      cases na <;> simp <;> omega
    clear hZa hZb
    go_enter Tryz.func86, Tryz.ntmps86
    go_wp2_with fail
    have E := enter3 w na A m c na B m' c'
    generalize (((w.alloc (.cells #[.bool na, .slice A m c] 36)).alloc (.cells #[.bool na, .slice B m' c'] 36)).alloc (.cells #[.bool false, .slice none 0 0] 36)) = W at *
    obtain ⟨B0, a0, a1, b0, b1, Hblk, hsz⟩ := E
    have Ha2 := Lib.hid (Ha.out.below B0.out)
    have Hb2 := Lib.hid (Hb.out.below B0.out)
    clear Ha Hb
    go_region_held3 (fun w' => w'.cell? ⟨w.heap.size, 0, none⟩ = some (.bool na) ∧ w'.cell? ⟨w.heap.size, 1, none⟩ = some (.slice A m c) ∧ w'.cell? ⟨w.heap.size + 1, 0, none⟩ = some (.bool na) ∧ w'.cell? ⟨w.heap.size + 1, 1, none⟩ = some (.slice B m' c'))
      (first | exact ⟨a0, a1, b0, b1⟩ | exact ⟨cell_below hb1'.out a0, cell_below hb1'.out a1, cell_below hb1'.out b0, cell_below hb1'.out b1⟩ | exact ⟨cell_below hb2'.out (cell_below hb1'.out a0), cell_below hb2'.out (cell_below hb1'.out a1), cell_below hb2'.out (cell_below hb1'.out b0), cell_below hb2'.out (cell_below hb1'.out b1)⟩ | exact ⟨put_far (cell_below hb2'.out (cell_below hb1'.out a0)) (show w.heap.size + 1 + 1 ≠ w.heap.size by omega), put_far (cell_below hb2'.out (cell_below hb1'.out a1)) (show w.heap.size + 1 + 1 ≠ w.heap.size by omega), put_far (cell_below hb2'.out (cell_below hb1'.out b0)) (show w.heap.size + 1 + 1 ≠ w.heap.size + 1 by omega), put_far (cell_below hb2'.out (cell_below hb1'.out b1)) (show w.heap.size + 1 + 1 ≠ w.heap.size + 1 by omega)⟩)
      (first
      | (go_at_call 45; refine (refAdd_calls _ _ X Y m m' _ ?_ ?_ (by omega) (by omega)).mono ?_; exact Ha2.out; exact Hb2.out; rintro e w1 ⟨C, r, c2, rfl, HC, hlc, hb1⟩; have HC' := Lib.hid HC; have hlc' := Lib.hid hlc; have hb1' := Lib.hid hb1; clear HC hlc hb1)
      | (go_at_call 29; refine (new_calls _ _ _ r _ HC'.out).mono ?_; rintro e w2 ⟨v2, rfl, hR, hb2⟩; obtain ⟨b3, A3, m3, c3, rfl⟩ := hR.form; have hblk := (hb2.block _ (Nat.lt_of_lt_of_le hsz hb1'.out.size)).trans ((hb1'.out.block _ hsz).trans Hblk.out); have hput := Lib.hid (RNum.put ((B0.out.drew.trans (hb1'.out.mono B0.out.size)).trans (hb2.mono (Nat.le_trans B0.out.size hb1'.out.size))) (by omega) hblk hR); obtain ⟨k0, k1, k2, k3⟩ := kept_cells hblk; have kr := Lib.hid (kept_reads hblk (.bool b3) (.slice A3 m3 c3)); have hb2' := Lib.hid hb2; clear hR hb2 hblk))
    have hL : r ≤ max La Lb + 1 := by
      have := add_len hX.out hY.out hlc'.out
      omega
    obtain ⟨q0, q1⟩ := kr.out
    go_wp2_with fail
    refine bodyPost_ret (v := .agg #[.bool b3, .slice A3 m3 c3]) (by simp [results, Tryz.results86, go_sem, q0, q1]) rfl ?_
    have h1 := hput.out.1.le hL
    rw [hZ.out] at h1
    exact ⟨_, rfl, h1, hput.out.2⟩
  · obtain rfl : nb = !na := by cases na <;> cases nb <;> simp_all
    clear hs
    go_enter Tryz.func86, Tryz.ntmps86
    go_wp2_with fail
    have E := enter3 w na A m c (!na) B m' c'
    generalize (((w.alloc (.cells #[.bool na, .slice A m c] 36)).alloc (.cells #[.bool (!na), .slice B m' c'] 36)).alloc (.cells #[.bool false, .slice none 0 0] 36)) = W at *
    obtain ⟨B0, a0, a1, b0, b1, Hblk, hsz⟩ := E
    have Ha2 := Lib.hid (Ha.out.below B0.out)
    have Hb2 := Lib.hid (Hb.out.below B0.out)
    clear Ha Hb
    refine (refCmp_calls _ _ X Y m m' W Ha2.out Hb2.out).mono ?_
    rintro e w' ⟨rfl, nd, rfl⟩
    obtain ⟨W1, hW1⟩ : ∃ W1, W1 = W.drewN nd := ⟨_, rfl⟩
    rw [← hW1]
    replace a0 : W1.cell? ⟨w.heap.size, 0, none⟩ = some (.bool na) := by rw [hW1]; exact a0
    replace a1 : W1.cell? ⟨w.heap.size, 1, none⟩ = some (.slice A m c) := by rw [hW1]; exact a1
    replace b0 : W1.cell? ⟨w.heap.size + 1, 0, none⟩ = some (.bool (!na)) := by rw [hW1]; exact b0
    replace b1 : W1.cell? ⟨w.heap.size + 1, 1, none⟩ = some (.slice B m' c') := by rw [hW1]; exact b1
    replace Hblk : Hid (W1.heap[w.heap.size + 1 + 1]? = some (.cells #[.bool false, .slice none 0 0] 36 (0, 0))) := by rw [hW1]; exact Hblk
    replace hsz : w.heap.size + 1 + 1 < W1.heap.size := by rw [hW1]; exact hsz
    replace B0 : Hid (Below w.heap.size w W1) := by rw [hW1]; exact below_drewN B0.out nd
    replace Ha2 : Hid (Num .u32 B16 W1 (.slice A m c) X m) := by rw [hW1]; exact Ha2.out.drewN nd
    replace Hb2 : Hid (Num .u32 B16 W1 (.slice B m' c') Y m') := by rw [hW1]; exact Hb2.out.drewN nd
    clear hW1
    by_cases hle : Y ≤ X
    · have hc : 0 ≤ cmpN X Y := by unfold cmpN; repeat' split <;> omega
      have hZ : Hid ((if na = true then -((X - Y : Nat) : Int) else ((X - Y : Nat) : Int)) = Za + Zb) := by
        show _ = _
        rw [hZa, hZb]
        cases na <;> simp <;> omega
      clear hZa hZb
      go_wp2_with fail
      go_region_held3 (fun w' => w'.cell? ⟨w.heap.size, 0, none⟩ = some (.bool na) ∧ w'.cell? ⟨w.heap.size, 1, none⟩ = some (.slice A m c) ∧ w'.cell? ⟨w.heap.size + 1, 0, none⟩ = some (.bool !na) ∧ w'.cell? ⟨w.heap.size + 1, 1, none⟩ = some (.slice B m' c'))
        (first | exact ⟨a0, a1, b0, b1⟩ | exact ⟨cell_below hb1'.out a0, cell_below hb1'.out a1, cell_below hb1'.out b0, cell_below hb1'.out b1⟩ | exact ⟨cell_below hb2'.out (cell_below hb1'.out a0), cell_below hb2'.out (cell_below hb1'.out a1), cell_below hb2'.out (cell_below hb1'.out b0), cell_below hb2'.out (cell_below hb1'.out b1)⟩ | exact ⟨put_far (cell_below hb2'.out (cell_below hb1'.out a0)) (show w.heap.size + 1 + 1 ≠ w.heap.size by omega), put_far (cell_below hb2'.out (cell_below hb1'.out a1)) (show w.heap.size + 1 + 1 ≠ w.heap.size by omega), put_far (cell_below hb2'.out (cell_below hb1'.out b0)) (show w.heap.size + 1 + 1 ≠ w.heap.size + 1 by omega), put_far (cell_below hb2'.out (cell_below hb1'.out b1)) (show w.heap.size + 1 + 1 ≠ w.heap.size + 1 by omega)⟩)
        (first
        | (go_at_call 70; refine (refSub_calls _ _ X Y m m' _ ?_ ?_ (by omega) hle).mono ?_; exact Ha2.out; exact Hb2.out; rintro e w1 ⟨C, r, c2, rfl, HC, hlc, hb1⟩; have HC' := Lib.hid HC; have hlc' := Lib.hid hlc; have hb1' := Lib.hid hb1; clear HC hlc hb1)
        | (go_at_call 29; refine (new_calls _ _ _ r _ HC'.out).mono ?_; rintro e w2 ⟨v2, rfl, hR, hb2⟩; obtain ⟨b3, A3, m3, c3, rfl⟩ := hR.form; have hblk := (hb2.block _ (Nat.lt_of_lt_of_le hsz hb1'.out.size)).trans ((hb1'.out.block _ hsz).trans Hblk.out); have hput := Lib.hid (RNum.put ((B0.out.drew.trans (hb1'.out.mono B0.out.size)).trans (hb2.mono (Nat.le_trans B0.out.size hb1'.out.size))) (by omega) hblk hR); obtain ⟨k0, k1, k2, k3⟩ := kept_cells hblk; have kr := Lib.hid (kept_reads hblk (.bool b3) (.slice A3 m3 c3)); have hb2' := Lib.hid hb2; clear hR hb2 hblk))
      have hL : r ≤ max La Lb + 1 := by
        have := sub_len hX.out hlc'.out
        omega
      obtain ⟨q0, q1⟩ := kr.out
      go_wp2_with fail
      refine bodyPost_ret (v := .agg #[.bool b3, .slice A3 m3 c3]) (by simp [results, Tryz.results86, go_sem, q0, q1]) rfl ?_
      have h1 := hput.out.1.le hL
      rw [hZ.out] at h1
      exact ⟨_, rfl, h1, hput.out.2⟩
    · have hc : cmpN X Y = -1 := by unfold cmpN; rw [if_pos (by omega)]
      have hZ : Hid ((if (!na) = true then -((Y - X : Nat) : Int) else ((Y - X : Nat) : Int)) = Za + Zb) := by
        show _ = _
        rw [hZa, hZb]
        cases na <;> simp <;> omega
      have hle2 : X ≤ Y := by omega
      rw [hc]
      clear hZa hZb hle hc
      go_wp2_with fail
      go_region_held3 (fun w' => w'.cell? ⟨w.heap.size, 0, none⟩ = some (.bool na) ∧ w'.cell? ⟨w.heap.size, 1, none⟩ = some (.slice A m c) ∧ w'.cell? ⟨w.heap.size + 1, 0, none⟩ = some (.bool !na) ∧ w'.cell? ⟨w.heap.size + 1, 1, none⟩ = some (.slice B m' c'))
        (first | exact ⟨a0, a1, b0, b1⟩ | exact ⟨cell_below hb1'.out a0, cell_below hb1'.out a1, cell_below hb1'.out b0, cell_below hb1'.out b1⟩ | exact ⟨cell_below hb2'.out (cell_below hb1'.out a0), cell_below hb2'.out (cell_below hb1'.out a1), cell_below hb2'.out (cell_below hb1'.out b0), cell_below hb2'.out (cell_below hb1'.out b1)⟩ | exact ⟨put_far (cell_below hb2'.out (cell_below hb1'.out a0)) (show w.heap.size + 1 + 1 ≠ w.heap.size by omega), put_far (cell_below hb2'.out (cell_below hb1'.out a1)) (show w.heap.size + 1 + 1 ≠ w.heap.size by omega), put_far (cell_below hb2'.out (cell_below hb1'.out b0)) (show w.heap.size + 1 + 1 ≠ w.heap.size + 1 by omega), put_far (cell_below hb2'.out (cell_below hb1'.out b1)) (show w.heap.size + 1 + 1 ≠ w.heap.size + 1 by omega)⟩)
        (first
        | (go_at_call 70; refine (refSub_calls _ _ Y X m' m _ ?_ ?_ (by omega) hle2).mono ?_; exact Hb2.out; exact Ha2.out; rintro e w1 ⟨C, r, c2, rfl, HC, hlc, hb1⟩; have HC' := Lib.hid HC; have hlc' := Lib.hid hlc; have hb1' := Lib.hid hb1; clear HC hlc hb1)
        | (go_at_call 29; refine (new_calls _ _ _ r _ HC'.out).mono ?_; rintro e w2 ⟨v2, rfl, hR, hb2⟩; obtain ⟨b3, A3, m3, c3, rfl⟩ := hR.form; have hblk := (hb2.block _ (Nat.lt_of_lt_of_le hsz hb1'.out.size)).trans ((hb1'.out.block _ hsz).trans Hblk.out); have hput := Lib.hid (RNum.put ((B0.out.drew.trans (hb1'.out.mono B0.out.size)).trans (hb2.mono (Nat.le_trans B0.out.size hb1'.out.size))) (by omega) hblk hR); obtain ⟨k0, k1, k2, k3⟩ := kept_cells hblk; have kr := Lib.hid (kept_reads hblk (.bool b3) (.slice A3 m3 c3)); have hb2' := Lib.hid hb2; clear hR hb2 hblk))
      have hL : r ≤ max La Lb + 1 := by
        have := sub_len hY.out hlc'.out
        omega
      obtain ⟨q0, q1⟩ := kr.out
      go_wp2_with fail
      refine bodyPost_ret (v := .agg #[.bool b3, .slice A3 m3 c3]) (by simp [results, Tryz.results86, go_sem, q0, q1]) rfl ?_
      have h1 := hput.out.1.le hL
      rw [hZ.out] at h1
      exact ⟨_, rfl, h1, hput.out.2⟩

set_option maxRecDepth 100000 in
theorem subz_calls (v u : Value) (Za Zb : Int) (La Lb : Nat) (w : World) (h : RNum w v Za La) (k : RNum w u Zb Lb) (hLa : La ≤ 20000) (hLb : Lb ≤ 20000) :
    Calls Tryz.prog 63 #[v, u] w fun e w' => ∃ r, e = .returned r ∧ RNum w' r (Za - Zb) (max La Lb + 1) ∧ Below w.heap.size w w' := by
  have H := Lib.hid h
  have K := Lib.hid k
  obtain ⟨na, A, m, c, rfl⟩ := h.form
  obtain ⟨nb, B, m', c', rfl⟩ := k.form
  clear h k
  go_enter Tryz.func63, Tryz.ntmps63
  go_wp2_with fail
  have E := enter3 w na A m c nb B m' c'
  generalize (((w.alloc (.cells #[.bool na, .slice A m c] 36)).alloc (.cells #[.bool nb, .slice B m' c'] 36)).alloc (.cells #[.bool false, .slice none 0 0] 36)) = W at *
  obtain ⟨B0, a0, a1, b0, b1, Hblk, hsz⟩ := E
  have Ha2 := Lib.hid (H.out.below B0.out)
  have Hb2 := Lib.hid (K.out.below B0.out)
  clear H K
  go_region_held3 (fun w' => w'.cell? ⟨w.heap.size, 0, none⟩ = some (.bool na) ∧ w'.cell? ⟨w.heap.size, 1, none⟩ = some (.slice A m c) ∧ w'.cell? ⟨w.heap.size + 1, 0, none⟩ = some (.bool nb) ∧ w'.cell? ⟨w.heap.size + 1, 1, none⟩ = some (.slice B m' c'))
    (first | exact ⟨a0, a1, b0, b1⟩ | exact ⟨cell_below hb1'.out a0, cell_below hb1'.out a1, cell_below hb1'.out b0, cell_below hb1'.out b1⟩ | exact ⟨cell_below hb2'.out (cell_below hb1'.out a0), cell_below hb2'.out (cell_below hb1'.out a1), cell_below hb2'.out (cell_below hb1'.out b0), cell_below hb2'.out (cell_below hb1'.out b1)⟩ | exact ⟨put_far (cell_below hb2'.out (cell_below hb1'.out a0)) (show w.heap.size + 1 + 1 ≠ w.heap.size by omega), put_far (cell_below hb2'.out (cell_below hb1'.out a1)) (show w.heap.size + 1 + 1 ≠ w.heap.size by omega), put_far (cell_below hb2'.out (cell_below hb1'.out b0)) (show w.heap.size + 1 + 1 ≠ w.heap.size + 1 by omega), put_far (cell_below hb2'.out (cell_below hb1'.out b1)) (show w.heap.size + 1 + 1 ≠ w.heap.size + 1 by omega)⟩)
    (first
    | (go_at_call 87; refine (neg_calls _ Zb Lb _ ?_).mono ?_; exact RNum.drew Hb2.out; rintro e w1 ⟨v1, rfl, hR, hb1⟩; obtain ⟨b3, A3, m3, c3, rfl⟩ := hR.form; have HC' := Lib.hid hR; have hb1' := Lib.hid hb1; have Ha3 := Lib.hid ((RNum.drew Ha2.out).below hb1); clear hR hb1)
    | (go_at_call 86; refine (addz_calls _ _ Za (-Zb) La Lb _ Ha3.out HC'.out hLa hLb).mono ?_; rintro e w2 ⟨v2, rfl, hR, hb2⟩; obtain ⟨b4, A4, m4, c4, rfl⟩ := hR.form; have hblk := (hb2.block _ (Nat.lt_of_lt_of_le hsz hb1'.out.size)).trans ((hb1'.out.block _ hsz).trans Hblk.out); have hput := Lib.hid (RNum.put ((B0.out.drew.trans (hb1'.out.mono B0.out.size)).trans (hb2.mono (Nat.le_trans B0.out.size hb1'.out.size))) (by omega) hblk hR); obtain ⟨k0, k1, k2, k3⟩ := kept_cells hblk; have kr := Lib.hid (kept_reads hblk (.bool b4) (.slice A4 m4 c4)); have hb2' := Lib.hid hb2; clear hR hb2 hblk))
  obtain ⟨q0, q1⟩ := kr.out
  go_wp2_with fail
  refine bodyPost_ret (v := .agg #[.bool b4, .slice A4 m4 c4]) (by simp [results, Tryz.results63, go_sem, q0, q1]) rfl ?_
  have h1 := hput.out.1
  rw [← Int.sub_eq_add_neg] at h1
  exact ⟨_, rfl, h1, hput.out.2⟩
set_option maxRecDepth 100000 in
theorem cmpz_calls (v u : Value) (Za Zb : Int) (La Lb : Nat) (w : World) (h : RNum w v Za La) (k : RNum w u Zb Lb) (hLa : La ≤ 20000) (hLb : Lb ≤ 20000) :
    Calls Tryz.prog 37 #[v, u] w fun e w' => e = .returned (.int .i64 (if Za - Zb < 0 then -1 else if Za - Zb = 0 then 0 else 1)) ∧ Below w.heap.size w w' := by
  have H := Lib.hid h
  have K := Lib.hid k
  obtain ⟨na, A, m, c, rfl⟩ := h.form
  obtain ⟨nb, B, m', c', rfl⟩ := k.form
  clear h k
  obtain ⟨z, hz⟩ : ∃ z : Int, z = if Za - Zb < 0 then -1 else if Za - Zb = 0 then 0 else 1 := ⟨_, rfl⟩
  rw [← hz]
  have hz' := Lib.hid hz
  clear hz
  go_enter Tryz.func37, Tryz.ntmps37
  go_wp2_with fail
  have hb0 : Below w.heap.size w ((w.alloc (.cells #[.bool na, .slice A m c] 36)).alloc (.cells #[.bool nb, .slice B m' c'] 36)) := ((Below.refl _ w).alloc (Nat.le_refl _) _).alloc (by simp) _
  refine (subz_calls _ _ Za Zb La Lb _ (H.out.below hb0) (K.out.below hb0) hLa hLb).mono ?_
  rintro e w1 ⟨v1, rfl, hR, hb1⟩
  have hb2 := Lib.hid (hb0.trans (hb1.mono (by simp; omega)))
  obtain ⟨b3, A3, m3, c3, rfl⟩ := hR.form
  have hR' := Lib.hid hR
  clear hb0 hb1 hR H K
  go_wp2_with fail
  refine (sign_calls _ _ _ _ hR'.out).mono ?_
  rintro e w2 ⟨rfl, hb3⟩
  rw [← hz'.out]
  have hb4 := Lib.hid (hb2.out.trans (hb3.mono hb2.out.size))
  clear hb3
  go_wp2_with fail
  go_ret
  exact ⟨rfl, hb4.out⟩
end Go.Proofs.YtmobnjlbbhhedaaGreatDoor
