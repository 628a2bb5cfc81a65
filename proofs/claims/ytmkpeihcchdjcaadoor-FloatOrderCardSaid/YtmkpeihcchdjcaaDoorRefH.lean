/- The walks of outriggerref02's Shl and From2. -/
import Derived.Test.YtmkpeihcchdjcaaDoorRefG
set_option linter.unusedVariables false
set_option linter.unusedSimpArgs false
namespace Go.Proofs.YtmkpeihcchdjcaaDoor
open Go.RowKit

/-- What a call of one such number begins with. -/
theorem enter2 (w : World) (na : Bool) (A : Option Addr) (m c : Nat) :
    Hid (Below w.heap.size w ((w.alloc (.cells #[.bool na, .slice A m c] 33)).alloc (.cells #[.bool false, .slice none 0 0] 33))) ∧ (((w.alloc (.cells #[.bool na, .slice A m c] 33)).alloc (.cells #[.bool false, .slice none 0 0] 33))).cell? ⟨w.heap.size, 0, none⟩ = some (.bool na) ∧ (((w.alloc (.cells #[.bool na, .slice A m c] 33)).alloc (.cells #[.bool false, .slice none 0 0] 33))).cell? ⟨w.heap.size, 1, none⟩ = some (.slice A m c) ∧
      Hid ((((w.alloc (.cells #[.bool na, .slice A m c] 33)).alloc (.cells #[.bool false, .slice none 0 0] 33))).heap[w.heap.size + 1]? = some (.cells #[.bool false, .slice none 0 0] 33 (0, 0))) ∧ w.heap.size + 1 < (((w.alloc (.cells #[.bool na, .slice A m c] 33)).alloc (.cells #[.bool false, .slice none 0 0] 33))).heap.size := by
  obtain ⟨a0, a1, _, _⟩ := kept_cells (w1 := ((w.alloc (.cells #[.bool na, .slice A m c] 33)).alloc (.cells #[.bool false, .slice none 0 0] 33))) (g := w.heap.size) (b0 := na) (A0 := A) (m0 := m) (c0 := c) (t := 33) ((((Below.refl (w.heap.size + 1) _).alloc (by simp) _).block _ (by omega)).trans (alloc_at rfl))
  exact ⟨((Below.refl _ w).alloc (Nat.le_refl _) _).alloc (by simp) _, a0, a1, alloc_at (by simp), by simp⟩

set_option maxHeartbeats 1000000 in
set_option maxRecDepth 100000 in
theorem shlz_calls (v : Value) (Z : Int) (L n : Nat) (w : World) (h : RNum w v Z L) (hL : L ≤ 10000) (hn : n ≤ 160000) :
    Calls Tryd.prog 41 #[v, .int .i64 n] w fun e w' => ∃ r, e = .returned r ∧ RNum w' r (Z * ((2 ^ n : Nat) : Int)) (L + n / 16 + 1) ∧ Below w.heap.size w w' := by
  obtain ⟨na, A, m, c, X, rfl, hNa, hla, hma, hZa, hpa⟩ := h
  have Ha := Lib.hid hNa
  have hZ : Hid ((if na = true then -((X * 2 ^ n : Nat) : Int) else ((X * 2 ^ n : Nat) : Int)) = Z * ((2 ^ n : Nat) : Int)) := by
    show _ = _
    rw [hZa, Int.natCast_mul]
    cases na
    · rfl
    · simp only [if_true]
      rw [Int.neg_mul]
  clear hNa hla hZa hpa
  go_enter Tryd.func41, Tryd.ntmps41
  go_wp2_with fail
  have E := enter2 w na A m c
  generalize ((w.alloc (.cells #[.bool na, .slice A m c] 33)).alloc (.cells #[.bool false, .slice none 0 0] 33)) = W at *
  obtain ⟨B0, a0, a1, Hblk, hsz⟩ := E
  have Ha2 := Lib.hid (Ha.out.below B0.out)
  clear Ha
  go_region_held3 (fun w' => w'.cell? ⟨w.heap.size, 0, none⟩ = some (.bool na) ∧ w'.cell? ⟨w.heap.size, 1, none⟩ = some (.slice A m c))
    (first | exact ⟨a0, a1⟩ | exact ⟨cell_below hb1'.out a0, cell_below hb1'.out a1⟩ | exact ⟨cell_below hb2'.out (cell_below hb1'.out a0), cell_below hb2'.out (cell_below hb1'.out a1)⟩ | exact ⟨put_far (cell_below hb2'.out (cell_below hb1'.out a0)) (show w.heap.size + 1 ≠ w.heap.size by omega), put_far (cell_below hb2'.out (cell_below hb1'.out a1)) (show w.heap.size + 1 ≠ w.heap.size by omega)⟩)
    (first
    | (go_at_call 34; refine (refShl_calls _ X n m _ ?_ (by omega) hn).mono ?_; exact Ha2.out; rintro e w1 ⟨C, r, c2, rfl, HC, hlc, hr, hb1⟩; have HC' := Lib.hid HC; have hr' := Lib.hid hr; have hb1' := Lib.hid hb1; clear HC hlc hb1 hr)
    | (go_at_call 43; refine (new_calls _ _ _ r _ HC'.out).mono ?_; rintro e w2 ⟨v2, rfl, hR, hb2⟩; obtain ⟨b3, A3, m3, c3, rfl⟩ := hR.form; have hblk := (hb2.block _ (Nat.lt_of_lt_of_le hsz hb1'.out.size)).trans ((hb1'.out.block _ hsz).trans Hblk.out); have hput := Lib.hid (RNum.put ((B0.out.drew.trans (hb1'.out.mono B0.out.size)).trans (hb2.mono (Nat.le_trans B0.out.size hb1'.out.size))) (by omega) hblk hR); obtain ⟨k0, k1, k2, k3⟩ := kept_cells hblk; have kr := Lib.hid (kept_reads hblk (.bool b3) (.slice A3 m3 c3)); have hb2' := Lib.hid hb2; clear hR hb2 hblk))
  have hL2 : r ≤ L + n / 16 + 1 := by have := hr'.out; omega
  obtain ⟨q0, q1⟩ := kr.out
  go_wp2_with fail
  refine bodyPost_ret (v := .agg #[.bool b3, .slice A3 m3 c3]) (by simp [results, Tryd.results41, go_sem, q0, q1]) rfl ?_
  have h1 := hput.out.1.le hL2
  rw [hZ.out] at h1
  exact ⟨_, rfl, h1, hput.out.2⟩

set_option maxHeartbeats 1000000 in
set_option maxRecDepth 100000 in
theorem from2_calls (x : Nat) (hx : x < 18446744073709551616) (w : World) :
    Calls Tryd.prog 42 #[.int .u64 x] w fun e w' => ∃ r, e = .returned r ∧ RNum w' r (x : Int) 4 ∧ Below w.heap.size w w' := by
  go_enter Tryd.func42, Tryd.ntmps42
  go_wp2_with fail
  have B0 : Hid (Below w.heap.size w ((w.alloc (.cells #[.bool false, .slice none 0 0] 33)).alloc (.cells #[.int .u64 x] 22))) := ((Below.refl _ w).alloc (Nat.le_refl _) _).alloc (by simp) _
  have hone : Num .u64 B64 ((w.alloc (.cells #[.bool false, .slice none 0 0] 33)).alloc (.cells #[.int .u64 x] 22)) (.slice (some ⟨w.heap.size + 1, 0, none⟩) 1 1) x 1 :=
    Num.one (by unfold B64; omega) (by rw [World.cell?_alloc_at _ _ _ _ (by simp)]; rfl)
  have hblk0 : ((w.alloc (.cells #[.bool false, .slice none 0 0] 33)).alloc (.cells #[.int .u64 x] 22)).heap[w.heap.size]? = some (.cells #[.bool false, .slice none 0 0] 33 (0, 0)) :=
    (((Below.refl (w.heap.size + 1) _).alloc (by simp) _).block _ (by omega)).trans (alloc_at rfl)
  have hsz : w.heap.size < ((w.alloc (.cells #[.bool false, .slice none 0 0] 33)).alloc (.cells #[.int .u64 x] 22)).heap.size := by simp; omega
  generalize ((w.alloc (.cells #[.bool false, .slice none 0 0] 33)).alloc (.cells #[.int .u64 x] 22)) = W at *
  refine (digits_calls _ x 1 W hone (by omega)).mono ?_
  rintro e w1 ⟨C, r, c2, rfl, HC, hlc, hr, hb1⟩
  have HC' := Lib.hid HC
  have hr' := Lib.hid hr
  have hb1' := Lib.hid hb1
  have Hblk := Lib.hid hblk0
  clear HC hlc hb1 hr hone hblk0
  go_wp2_with fail
  refine (new_calls _ _ _ r _ HC'.out).mono ?_
  rintro e w2 ⟨v2, rfl, hR, hb2⟩
  obtain ⟨b3, A3, m3, c3, rfl⟩ := hR.form
  have hblk := (hb2.block _ (Nat.lt_of_lt_of_le hsz hb1'.out.size)).trans ((hb1'.out.block _ hsz).trans Hblk.out)
  have hput := Lib.hid (RNum.put ((B0.out.trans (hb1'.out.mono B0.out.size)).trans (hb2.mono (Nat.le_trans B0.out.size hb1'.out.size))) (by omega) hblk hR)
  obtain ⟨k0, k1, k2, k3⟩ := kept_cells hblk
  have kr := Lib.hid (kept_reads hblk (.bool b3) (.slice A3 m3 c3))
  clear hR hb2 hblk
  go_wp2_with fail
  obtain ⟨q0, q1⟩ := kr.out
  refine bodyPost_ret (v := .agg #[.bool b3, .slice A3 m3 c3]) (by simp [results, Tryd.results42, go_sem, q0, q1]) rfl ?_
  exact ⟨_, rfl, hput.out.1.le (by have := hr'.out; omega), hput.out.2⟩
end Go.Proofs.YtmkpeihcchdjcaaDoor
