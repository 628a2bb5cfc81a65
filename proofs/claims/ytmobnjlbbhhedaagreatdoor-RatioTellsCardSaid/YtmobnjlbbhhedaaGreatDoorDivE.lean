/- The walks of split.small, split.Quo. -/
import Derived.Test.YtmobnjlbbhhedaaGreatDoorDivC
import Derived.Test.YtmobnjlbbhhedaaGreatDoorNatE
import Derived.OwnWalk
set_option linter.unusedVariables false
set_option linter.unusedSimpArgs false
namespace Go.Proofs.YtmobnjlbbhhedaaGreatDoor
open Go.RowKit

theorem small_calls (v : Value) (X n : Nat) (w : World) (h : Num .u64 B64 w v X n) (hn : n ≤ 1024) :
    Calls Tryz.prog 51 #[v] w fun e w' => e = .returned (.bool true) ∧ w = w' := by
  have H := Lib.hid h
  clear h
  go_enter Tryz.func51, Tryz.ntmps51
  go_wp2_with fail
  refine (natPlain_calls _ n X w H.out).mono ?_
  rintro e w' ⟨C, r, rfl, rfl, hr, HC, hlc⟩
  clear HC hlc
  have h1 : (r : Int) ≤ 1024 := by omega
  go_wp2_with fail
  go_ret
  exact ⟨by simp [h1], rfl⟩

/-- What a division answers. -/
def QuoIs (w : World) (v1 v2 : Value) (X Y : Nat) : Prop := (∃ r, Num .u64 B64 w v1 (X / Y) r ∧ IsLen B64 (X / Y) r) ∧ ∃ s, Num .u64 B64 w v2 (X % Y) s ∧ IsLen B64 (X % Y) s

set_option maxHeartbeats 4000000 in
set_option maxRecDepth 100000 in
theorem quo_calls (v u : Value) (X Y n m : Nat) (w : World) (h : Num .u64 B64 w v X n) (k : Num .u64 B64 w u Y m) (hn : n ≤ 800) (hm : m ≤ 800) (hY : 0 < Y) :
    Calls Tryz.prog 34 #[v, u] w fun e w' => ∃ v1 v2, e = .returned (.tuple #[v1, v2, .nilIface]) ∧ QuoIs w' v1 v2 X Y ∧ Below w.heap.size w w' := by
  have H := Lib.hid h
  have K := Lib.hid k
  have hY' := Lib.hid hY
  clear h k hY
  go_enter Tryz.func34, Tryz.ntmps34
  go_wp2_with fail
  refine (natPlain_calls _ n X w H.out).mono ?_
  rintro e w' ⟨A, a, rfl, rfl, ha, HA, hla⟩
  replace H := Lib.hid HA
  have LA := Lib.hid hla
  clear HA hla
  go_wp2_with fail
  refine (natPlain_calls _ m Y w K.out).mono ?_
  rintro e w' ⟨B, b, rfl, rfl, hb, HB, hlb⟩
  replace K := Lib.hid HB
  have LB := Lib.hid hlb
  clear HB hlb
  have hb0 : 0 < b := LB.out.pos hY'.out
  go_wp2_with fail
  refine (small_calls _ X a w H.out (by omega)).mono ?_
  rintro e w' ⟨rfl, rfl⟩
  go_wp2_with fail
  refine (small_calls _ Y b w K.out (by omega)).mono ?_
  rintro e w' ⟨rfl, rfl⟩
  go_wp2_with fail
  refine (natCmp_calls _ _ X Y a b w H.out K.out).mono ?_
  rintro e w' ⟨rfl, nd, rfl⟩
  by_cases hlt : X < Y
  · rw [cmpN_lt hlt]
    have e1 : Hid (X / Y = 0) := Nat.div_eq_of_lt hlt
    have e2 : Hid (X % Y = X) := Nat.mod_eq_of_lt hlt
    clear hlt
    go_wp2_with fail
    refine (clone_calls _ X a _ (H.out.drewN nd) (by omega)).mono ?_
    rintro e w1 ⟨cvv, rfl, hcv, hb1⟩
    have hcv' := Lib.hid (hcv.num' B64_pos H.out.lt)
    have B1 : Hid (Below w.heap.size w w1) := (below_drewN (Below.refl _ w) nd).trans (show Below w.heap.size (w.drewN nd) w1 from hb1)
    clear hcv hb1
    go_wp2_with fail
    go_ret3
    refine ⟨_, _, rfl, ⟨⟨0, ?_, ?_⟩, a, ?_, ?_⟩, B1.out⟩
    · rw [e1.out]; exact Num.nil ..
    · rw [e1.out]; exact IsLen.zero _
    · rw [e2.out]; exact hcv'.out
    · rw [e2.out]; exact LA.out
  · obtain ⟨cc, hcc, hc0⟩ : ∃ cc, cmpN X Y = cc ∧ 0 ≤ cc := ⟨_, rfl, (cmpN_nonneg X Y).2 (by omega)⟩
    rw [hcc]
    clear hcc
    by_cases hb1 : b = 1
    · subst hb1
      obtain ⟨ub, rfl, hcu⟩ := K.out.cell (show 0 < 1 by omega)
      have hY1 : Hid (Y < 18446744073709551616) := by
        have := LB.out.1
        rw [Nat.pow_one, B64_eq] at this
        exact this
      rw [add_zero', dig_small (by rw [B64_eq]; exact hY1.out)] at hcu
      clear hlt
      go_wp2_with fail
      refine (by_calls _ X a Y _ (H.out.drewN nd) (by omega) hY'.out hY1.out).mono ?_
      rintro e w1 ⟨C, r, rfl, HC, hlc, hb1⟩
      have HC' := Lib.hid HC
      have LC := Lib.hid hlc
      have B1 : Hid (Below w.heap.size w w1) := (below_drewN (Below.refl _ w) nd).trans (show Below w.heap.size (w.drewN nd) w1 from hb1)
      have hlt1 : Hid (X % Y < B64) := Nat.lt_trans (Nat.mod_lt _ hY'.out) (by rw [B64_eq]; exact hY1.out)
      have hsz : w.heap.size ≤ w1.heap.size := hb1.size
      clear HC hlc hb1
      obtain ⟨md, hmd⟩ : ∃ md, md = X % Y := ⟨_, rfl⟩
      rw [← hmd] at hlt1
      have hmd' := Lib.hid hmd
      rw [← hmd]
      clear hmd
      have hlit : Hid (Num .u64 B64 (w1.alloc (.cells #[.int .u64 md] 79)) (.slice (some ⟨w1.heap.size, 0, none⟩) 1 1) md 1) :=
        Num.one hlt1.out (by rw [World.cell?_alloc_at _ _ _ _ rfl]; rfl)
      go_wp2_with fail
      refine (natPlain_calls _ 1 md _ hlit.out).mono ?_
      rintro e w' ⟨D, s, rfl, rfl, hs1, HD, hld⟩
      have HD' := Lib.hid HD
      have LD := Lib.hid hld
      clear HD hld
      go_wp2_with fail
      go_ret3
      refine ⟨_, _, rfl, ⟨⟨r, ?_, LC.out⟩, s, ?_, ?_⟩, B1.out.alloc hsz _⟩
      · exact HC'.out.below ((Below.refl _ _).alloc (Nat.le_refl _) _)
      · rw [← hmd'.out]; exact HD'.out
      · rw [← hmd'.out]; exact LD.out
    · obtain ⟨b1, hbb⟩ : ∃ b1, b = b1 + 1 := ⟨b - 1, by omega⟩
      have eb : (b : Int) - 1 = (b1 : Int) := by omega
      have hb1b : b1 < b := by omega
      obtain ⟨ub, rfl, hcu⟩ := K.out.cell hb1b
      obtain ⟨d, hd⟩ : ∃ d, d = dig B64 Y b1 := ⟨_, rfl⟩
      have hd0 : Hid (0 < d) := by
        have h1 := LB.out
        rw [hbb] at h1
        have := h1.top_ne B64_pos
        show 0 < d
        omega
      have hdB : Hid (d < 18446744073709551616) := by
        show d < _
        rw [hd]; exact dig64_lt Y b1
      have hcu' := hcu
      rw [← hd] at hcu'
      have hYX : Hid (Y ≤ X) := Nat.le_of_not_lt hlt
      clear hcu hlt hd hbb
      go_wp2_with fail
      refine (lz_calls d _ hd0.out hdB.out).mono ?_
      rintro e w' ⟨s, rfl, hs64, h2a, h2b, rfl⟩
      clear h2a h2b
      have hS : Hid (2 ^ s ≤ B64) := by
        show 2 ^ s ≤ B64
        rw [B64_eq]
        exact Nat.le_trans (Nat.pow_le_pow_right (by decide) (show s ≤ 64 by omega)) (by decide)
      go_wp2_with fail
      refine (natShl_calls _ X s a _ (H.out.drewN nd) (by omega) (fun c hc => by have := hc.le H.out.lt; omega)).mono ?_
      rintro e w1 ⟨C, r, rfl, HC, hlc, hbb⟩
      have HC' := Lib.hid HC
      have LC := Lib.hid hlc
      have B1 : Hid (Below w.heap.size w w1) := (below_drewN (Below.refl _ w) nd).trans (show Below w.heap.size (w.drewN nd) w1 from hbb)
      clear HC hlc hbb
      go_wp2_with fail
      refine (natShl_calls _ Y s b _ (K.out.below B1.out) (by omega) (fun c hc => by have := hc.le K.out.lt; omega)).mono ?_
      rintro e w2 ⟨D, t, rfl, HD, hld, hbb⟩
      have HD' := Lib.hid HD
      have LD := Lib.hid hld
      replace HC' := Lib.hid (HC'.out.below hbb)
      have B2 : Hid (Below w.heap.size w w2) := B1.out.trans (hbb.mono B1.out.size)
      clear HD hld hbb
      have ht0 : 0 < t := LD.out.pos (Nat.mul_pos hY'.out (Nat.two_pow_pos s))
      obtain ⟨t1, rfl⟩ : ∃ t1, t = t1 + 1 := ⟨t - 1, by omega⟩
      have hr1 : r ≤ a + 1 := by
        refine LC.out.le ?_
        rw [Nat.pow_succ]
        exact Nat.lt_of_lt_of_le (Nat.mul_lt_mul_of_pos_right H.out.lt (Nat.two_pow_pos s)) (Nat.mul_le_mul_left _ hS.out)
      have hrt : t1 ≤ r := by
        have := LD.out.le (Nat.lt_of_le_of_lt (Nat.mul_le_mul_right (2 ^ s) hYX.out) LC.out.1)
        omega
      clear ht0
      go_wp2_with fail
      refine (long_calls _ _ (X * 2 ^ s) (Y * 2 ^ s) r t1 w2 HC'.out HD'.out (by omega) hrt LD.out).mono ?_
      obtain ⟨m1, m2⟩ := moved_div X Y s
      rw [m1]
      rintro e w3 ⟨E, p, F, q, rfl, HE, hle, HF, hlf, hbb⟩
      have hq : q ≤ 900 := by
        have h1 := hlf.le (Nat.lt_of_le_of_lt (Nat.mod_le _ _) LC.out.1)
        omega
      have HE' := Lib.hid HE
      have LE := Lib.hid hle
      have HF' := Lib.hid HF
      have B3 : Hid (Below w.heap.size w w3) := B2.out.trans (hbb.mono B2.out.size)
      have m2' := Lib.hid m2
      clear HE hle HF hlf hbb HC' HD' LC LD m1 m2
      go_wp2_with fail
      refine (natShr_calls _ (X * 2 ^ s % (Y * 2 ^ s)) s q (s : Int) w3 HF'.out (by omega) (by omega) (by omega)).mono ?_
      rw [m2'.out]
      rintro e w4 ⟨G, u, c, rfl, HG, hlg, hbb⟩
      replace HE' := Lib.hid (HE'.out.below hbb)
      have HG' := Lib.hid HG
      have LG := Lib.hid hlg
      have B4 : Hid (Below w.heap.size w w4) := B3.out.trans (hbb.mono B3.out.size)
      clear HG hlg hbb
      go_wp2_with fail
      go_ret3
      exact ⟨_, _, rfl, ⟨⟨p, HE'.out, LE.out⟩, u, HG'.out, LG.out⟩, B4.out⟩
end Go.Proofs.YtmobnjlbbhhedaaGreatDoor
