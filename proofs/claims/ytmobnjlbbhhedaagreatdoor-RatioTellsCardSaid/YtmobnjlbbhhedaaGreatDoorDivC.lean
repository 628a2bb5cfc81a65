/- The walk of split.long. -/
import Derived.Test.YtmobnjlbbhhedaaGreatDoorDivB
import Derived.Test.YtmobnjlbbhhedaaGreatDoorDivP
import Derived.Test.YtmobnjlbbhhedaaGreatDoorMemC
import Derived.Test.YtmobnjlbbhhedaaGreatDoorErrA
import Derived.Test.YtmobnjlbbhhedaaGreatDoorErrB
import Derived.Test.YtmobnjlbbhhedaaGreatDoorNatC
import Derived.Test.YtmobnjlbbhhedaaGreatDoorNatD
import Derived.ScopeJumps
import Derived.WalkMore
set_option linter.unusedVariables false
set_option linter.unusedSimpArgs false
namespace Go.Proofs.YtmobnjlbbhhedaaGreatDoor
open Go.RowKit

/-- The state's frame under a name. -/
theorem wp_named {P : Program} {c : Code} {Q : Exit → Act → World → Prop} {a : Act} {w : World} (h : ∀ A0, A0 = a → c.wp P Q A0 w) : c.wp P Q a w := h a rfl
theorem quiet_of_drew {P : Program} {f : FuncId} {args : Array Value} {w : World} {n : Nat} {v : Value}
    (h : Calls P f args (w.drewN n) fun e w' => e = .returned v ∧ ∃ nd, w' = (w.drewN n).drewN nd) : Calls P f args (w.drewN n) fun e w'' => e = .returned v ∧ ∃ m, w'' = w.drewN m := Calls.quiet_of h
/-- A scope with one label, to which the run comes from above and by jumps: the way from the label once. -/
theorem wp_scope_jumps1 {P : Program} {a : Act} {w : World} {Q : Exit → Act → World → Prop} {c rest : Code} (l : Nat) (J : Act → World → Prop) (μ : Act → World → Nat) (hf : findLabel c l = some (.seq .skip rest))
    (pass : ∀ a w, J a w → rest.wp P (Exit.jump l (fun a' w' => J a' w' ∧ μ a' w' < μ a w) Q) a w)
    (first : (∀ a w, J a w → rest.wp P (Exit.jump l J Q) a w) → c.wp P (Exit.jump l J Q) a w) : (Code.scope c).wp P Q a w :=
  wp_scope_jumps l J μ hf (first fun a w h => wp_mono (pass a w h) fun e a' w' q => by
    cases e <;> first | exact q | exact ⟨q.1, q.2.1⟩) fun a w h => wp_seq (wp_skip (pass a w h))
theorem size64 : (Tryz.prog.info? 79).map (·.size) = some 1 := by kernel_rfl
theorem zero64 (w : World) : (zeroValue 79).run Tryz.prog w = .ok (.int .u64 0) w := by kernel_rfl

theorem OwnD.some_row {k : IntKind} {B : Nat} (hB : 0 < B) {t : TypeId} {w : World} {base : Nat} {v : Value} {Z n : Nat} (h : OwnD k B t w base v Z n) (hn : 0 < n) :
    ∃ g c, v = .slice (some ⟨g, 0, none⟩) n c ∧ base ≤ g ∧ n ≤ c ∧ c ≤ 9223372036854775807 ∧ Row k B t w g n (Z % B ^ n) := by
  rcases h.row hB with ⟨_, h0⟩ | h
  · omega
  · exact h

set_option maxHeartbeats 4000000 in
set_option maxRecDepth 100000 in
theorem long_calls (v u : Value) (X Y la n1 : Nat) (w : World) (h : Num .u64 B64 w v X la) (k : Num .u64 B64 w u Y (n1 + 1)) (hla : la ≤ 900) (hn : n1 ≤ la) (hy : IsLen B64 Y (n1 + 1)) :
    Calls Tryz.prog 61 #[v, u] w fun e w' => ∃ A r C s, e = .returned (.tuple #[.slice A r r, .slice C s s]) ∧ Num .u64 B64 w' (.slice A r r) (X / Y) r ∧ IsLen B64 (X / Y) r ∧ Num .u64 B64 w' (.slice C s s) (X % Y) s ∧ IsLen B64 (X % Y) s ∧ Below w.heap.size w w' := by
  obtain ⟨VA, cv, rfl, hvc, hvc2⟩ := h.form
  obtain ⟨UA, cu, rfl, huc, huc2⟩ := k.form
  have H := Lib.hid h
  have K := Lib.hid k
  have hy' := Lib.hid hy
  have hY0 : Hid (0 < Y) := by
    show 0 < Y
    rcases Nat.eq_zero_or_pos Y with h0 | h0
    · subst h0
      have := hy.2 0 (by simp)
      omega
    · exact h0
  clear h k hy
  obtain ⟨n, hnn⟩ : ∃ n, n = n1 + 1 := ⟨_, rfl⟩
  obtain ⟨L, hL⟩ : ∃ L, L = la + 1 := ⟨_, rfl⟩
  obtain ⟨m, hm⟩ : ∃ m, m = L - n := ⟨_, rfl⟩
  rw [← hnn] at K
  have e1 : (n : Int) - 1 = (n1 : Int) := by omega
  have e2 : (L : Int) - (n : Int) = (m : Int) := by omega
  have b1 : L ≤ 901 := by omega
  have b2 : n ≤ L := by omega
  have b4 : m + n = L := by omega
  have b5 : 0 < n := by omega
  have b6 : n1 < n := by omega
  have hz : Hid (dig B64 X la = 0) := dig_ge B64_pos H.out.lt (Nat.le_refl _)
  have hL' : Hid (L = la + 1) := hL
  have hnn' : Hid (n = n1 + 1) := hnn
  have hXL : Hid (X < B64 ^ L) := Nat.lt_of_lt_of_le H.out.lt (Nat.pow_le_pow_right B64_pos (by omega))
  have hXY : Hid (X / Y < B64 ^ m) := by
    have h1 : X % (Y * B64 ^ m) = X := by
      refine long_first B64_pos H.out.lt (n := n1) ?_ (by omega)
      apply Classical.byContradiction
      intro hlt
      have := hy'.out.2 n1 (by omega)
      omega
    show X / Y < B64 ^ m
    rw [Nat.div_lt_iff_lt_mul hY0.out, Nat.mul_comm, ← h1]
    exact Nat.mod_lt _ (Nat.mul_pos hY0.out (Nat.pow_pos B64_pos))
  have hbeg : Hid (X % (Y * B64 ^ m) = X) := by
    refine long_first B64_pos H.out.lt (n := n1) ?_ (by omega)
    apply Classical.byContradiction
    intro hlt
    have := hy'.out.2 n1 (by omega)
    omega
  have hmk := run_make_row' (P := Tryz.prog) 22 79 (.int .u64 0) 8 Tryz.underlying22 info64 rfl .i64 .i64 m (by omega) (by omega)
  rw [← hnn]
  clear hnn hL hm
  go_enter Tryz.func61, Tryz.ntmps61
  go_wp2_with fail
  refine (clone_calls _ X la w H.out (by omega)).mono ?_
  rintro e w1 ⟨cvv, rfl, hcv, hb⟩
  have hcv' := Lib.hid hcv
  have B1 := Lib.hid hb
  have hsz : w.heap.size ≤ w1.heap.size := hb.size
  clear hcv hb
  go_wp2_with (at_builtin; refine wpList_append_OwnD _ rfl (.tmp 17) (.tmp 18) 22 79 rfl .u64 B64 8 Tryz.underlying22 info64 w.heap.size cvv X la rfl (OwnD.alloc hcv'.out _) ⟨w1.heap.size, 0, none⟩ 1 rfl ?h2 (by omega) (by omega) ?h3 ?_; (case h2 => rw [hz.out]; go_simp); (case h3 => simp; omega); intro v' w2 ho hg; rw [← hL'.out] at ho; obtain ⟨gr, c2, rfl, hgr, hrc, hc2, hrow⟩ := ho.some_row B64_pos (by omega); rw [Nat.mod_eq_of_lt hXL.out] at hrow; have hrow' := Lib.hid hrow; have hg' := Lib.hid hg; clear hrow hg ho)
  clear hmk
  have B2 : Hid (Below w.heap.size w w2) := (B1.out.alloc hsz _).grown hg'.out (by simp; omega) hcv'.out.base
  have hne : gr ≠ w2.heap.size := Nat.ne_of_lt hrow'.out.lt
  have hB2s : w.heap.size ≤ w2.heap.size := B2.out.size
  clear hcv' hg' B1 hz
  go_loopw [7] (fun v7 wr => ∃ k : Nat, v7 = .int .i64 ((k : Int) - 1) ∧ k ≤ m ∧ Hid (Row .u64 B64 79 wr gr L (X % (Y * B64 ^ k))) ∧ Hid (Row .u64 B64 79 wr w2.heap.size m (mix B64 0 (X / Y) k)) ∧ Hid (Below w.heap.size w wr)) (fun v _ => (intOf v + 1).toNat)
  case atStart =>
    refine ⟨m, rfl, Nat.le_refl _, ?_, ?_, B2.out.alloc hB2s _⟩
    · rw [hbeg.out]
      exact hrow'.out.alloc _
    · rw [mix_all B64_pos (Nat.pow_pos B64_pos) ?_]
      · exact Row.made B64_pos _ _ _
      · exact hXY.out
  case round =>
    clear hrow' B2 hbeg
    obtain ⟨k, rfl, hk, hrow, hrq, hbel⟩ := hrel
    cases k with
    | succ j =>
      obtain ⟨R, hR⟩ : ∃ R, R = X % (Y * B64 ^ (j + 1)) := ⟨_, rfl⟩
      obtain ⟨P, hP⟩ : ∃ P, P = R / B64 ^ j := ⟨_, rfl⟩
      obtain ⟨s1, s2, s3⟩ := long_step B64_pos hY0.out hR hP
      rw [← hR] at hrow
      have hPlt : P < B64 ^ (n + 1) := by
        rw [Nat.pow_succ]
        exact Nat.lt_trans s1 (Nat.mul_lt_mul_of_pos_right K.out.lt B64_pos)
      have hpart : Hid (Num .u64 B64 wr (.slice (some ⟨gr, j, none⟩) (n + 1) (c2 - j)) P (n + 1)) := by
        have h1 := (hrow.out.numc c2 hrc hc2).drop B64_pos (q := j) (by omega) (c2 - j) (by omega) (by omega)
        rw [← hP, add_none, Nat.zero_add] at h1
        exact h1.take (by omega) hPlt (c2 - j) (by omega) (Nat.le_refl _)
      have hc1 := hrow.out.cell (show j + n < L by omega)
      have hc0 := hrow.out.cell (show j + n1 < L by omega)
      obtain ⟨ud, rfl, hcu⟩ := (K.out.below hbel.out).cell b6
      rw [← dig_div', ← hP] at hc1 hc0
      obtain ⟨G1, G2⟩ := long_guess (B := B64) (P := P) (Y := Y) (n := n1) B64_pos hy'.out.1 (by have := hy'.out.top_ne B64_pos; omega) (by rw [hnn'.out] at hPlt; exact hPlt) s1
      obtain ⟨dh, hdh⟩ : ∃ dh, dh = dig B64 P n := ⟨_, rfl⟩
      obtain ⟨dn, hdn⟩ : ∃ dn, dn = dig B64 P n1 := ⟨_, rfl⟩
      obtain ⟨dy, hdy⟩ : ∃ dy, dy = dig B64 Y n1 := ⟨_, rfl⟩
      have hb1 : dn < 18446744073709551616 := by rw [hdn]; exact dig64_lt P n1
      have hb2 : dy < 18446744073709551616 := by rw [hdy]; exact dig64_lt Y n1
      have gz := guessz_calls dh dn dy
      rw [← hdh] at hc1
      rw [← hdn] at hc0
      rw [← hdy] at hcu
      have hg0 : Hid ((if dy ≤ dh then 18446744073709551615 else (dh * 18446744073709551616 + dn) / dy : Nat) = (if dig B64 Y n1 ≤ dig B64 P (n1 + 1) then B64 - 1 else (dig B64 P (n1 + 1) * B64 + dig B64 P n1) / dig B64 Y n1)) := by
        show _ = _
        rw [hdy, hdh, hdn, hnn'.out, B64_eq]
      obtain ⟨g0, hg0e⟩ : ∃ g0, g0 = (if dig B64 Y n1 ≤ dig B64 P (n1 + 1) then B64 - 1 else (dig B64 P (n1 + 1) * B64 + dig B64 P n1) / dig B64 Y n1) := ⟨_, rfl⟩
      have gz' : Hid (∀ w, Calls Tryz.prog 84 #[.int .u64 dh, .int .u64 dn, .int .u64 dy] w fun e w' => e = .returned (.int .u64 g0) ∧ ∃ nd, w' = w.drewN nd) := by
        intro w
        have := gz w hb1 hb2
        rw [hg0.out, ← hg0e] at this
        exact this
      rw [← hg0e] at G1 G2
      have GG : Hid (P / Y ≤ g0 ∧ g0 < B64) := ⟨G1, G2⟩
      have SS : Hid (P / Y = dig B64 (X / Y) j ∧ P % Y * B64 ^ j + R % B64 ^ j = X % (Y * B64 ^ j) ∧ P < B64 ^ (n + 1)) := ⟨s2, s3, hPlt⟩
      have hP2 := Lib.hid hP
      clear hR s1 s2 s3 hPlt G1 G2 hdh hdn hdy gz hg0 hg0e hb1 hb2 hP
      rw [show ((j + 1 : Nat) : Int) - 1 = (j : Int) by omega]
      go_wp2_with fail
      refine wp_scope_jumps1 0 (fun a' w' => ∃ (g : Nat) (x10 x11 x12 x13 x30 x31 x32 x33 x34 x35 x36 x37 x38 x39 x40 x41 x42 x43 x44 x45 x46 x47 x48 x49 x50 x51 x52 x53 x54 x55 x56 x57 x58 x59 x60 x61 x62 x63 x64 x65 x66 x67 x68 x69 x70 x71 x72 x73 x74 x75 x76 x77 x78 x79 : Value), a' = { tmps := #[Value.slice VA la cv, Value.slice (some ud) n cu, undef, undef, Value.slice (some ⟨w2.heap.size, 0, none⟩) m m, Value.slice (some ⟨gr, 0, none⟩) L c2, Value.int IntKind.i64 n, Value.int IntKind.i64 (j : Int), Value.slice (some ⟨gr, j, none⟩) (n + 1) (c2 - j), Value.int IntKind.u64 (g : Int), x10, x11, x12, x13, Value.slice (some ud) n cu, Value.int IntKind.i64 n, Value.slice VA la cv, cvv, Value.slice (some ⟨w1.heap.size, 0, none⟩) 1 1, Value.slice (some ⟨gr, 0, none⟩) L c2, Value.slice (some ⟨gr, 0, none⟩) L c2, Value.int IntKind.i64 L, Value.int IntKind.i64 n, Value.int IntKind.i64 m, Value.slice (some ⟨w2.heap.size, 0, none⟩) m m, Value.slice (some ⟨w2.heap.size, 0, none⟩) m m, Value.int IntKind.i64 m, Value.int IntKind.i64 ((m : Int) - 1), Value.int IntKind.i64 (j : Int), Value.bool true, x30, x31, x32, x33, x34, x35, x36, x37, x38, x39, x40, x41, x42, x43, x44, x45, x46, x47, x48, x49, x50, x51, x52, x53, x54, x55, x56, x57, x58, x59, x60, x61, x62, x63, x64, x65, x66, x67, x68, x69, x70, x71, x72, x73, x74, x75, x76, x77, x78, x79, undef, undef, undef, undef], defers := [] } ∧ Hid (P / Y ≤ g ∧ g < B64) ∧ Hid (Num .u64 B64 w' (.slice (some ⟨gr, j, none⟩) (n + 1) (c2 - j)) P (n + 1)) ∧ Hid (Row .u64 B64 79 w' gr L R) ∧ Hid (Row .u64 B64 79 w' w2.heap.size m (mix B64 0 (X / Y) (j + 1))) ∧ Hid (Below w.heap.size w w')) (fun a' _ => (intOf (a'.tmps.getD 9 undef)).toNat) rfl ?pass ?first
      case first =>
        intro go
        have go' := Lib.hid go
        clear go
        go_wp2_with fail
        go_quiet ((go_at_call 84; exact quiet_of_drew (gz'.out _)))
        go_wp2_with fail
        rw [show j + n + 1 - j = n + 1 by omega]
        go_step3
        show Exit.then _ _ Exit.normal _ _
        simp only [Exit.then]
        rename_i hKK
        refine hKK _ _ (go'.out _ _ ⟨g0, _, _, _, _, _, _, _, _, _, _, _, _, _, _, _, _, _, _, _, _, _, _, _, _, _, _, _, _, _, _, _, _, _, _, _, _, _, _, _, _, _, _, _, _, _, _, _, _, _, _, _, _, _, _, rfl, GG, hpart.out.drewN _, hrow.out.drewN _, hrq.out.drewN _, below_drewN hbel.out _⟩)
      case pass =>
        rintro a' wq ⟨g, x10, x11, x12, x13, x30, x31, x32, x33, x34, x35, x36, x37, x38, x39, x40, x41, x42, x43, x44, x45, x46, x47, x48, x49, x50, x51, x52, x53, x54, x55, x56, x57, x58, x59, x60, x61, x62, x63, x64, x65, x66, x67, x68, x69, x70, x71, x72, x73, x74, x75, x76, x77, x78, x79, rfl, GG, hpart, hrow, hrq, hbel⟩
        clear gz' hc1 hc0 hcu
        have hlit : Hid (Num .u64 B64 (wq.alloc (.cells #[.int .u64 g] 79)) (.slice (some ⟨wq.heap.size, 0, none⟩) 1 1) g 1) :=
          Num.one GG.out.2 (by rw [World.cell?_alloc_at _ _ _ _ rfl]; rfl)
        have hsq : w.heap.size ≤ wq.heap.size := hbel.out.size
        have Kq : Hid (Num .u64 B64 (wq.alloc (.cells #[.int .u64 g] 79)) (.slice (some ud) n cu) Y n) := K.out.below (hbel.out.alloc hsq _)
        go_wp2_with fail
        refine (natMul_calls _ _ g Y 1 n _ hlit.out Kq.out ?hlen).mono ?_
        case hlen =>
          intro a b ha hb
          have h1 := IsLen.le hb K.out.lt
          have h2 := IsLen.le ha hlit.out.lt
          omega
        rintro e wm ⟨MA, r, rfl, hM, hMl, hMb⟩
        have hM' := Lib.hid hM
        have hMl' := Lib.hid hMl
        have hMb' : Hid (Below wq.heap.size wq wm) := ((Below.refl _ _).alloc (Nat.le_refl _) _).trans (hMb.mono (by simp))
        clear hM hMl hMb
        have P1 := hpart.out.below hMb'.out
        have hbel1 : Hid (Below w.heap.size w wm) := hbel.out.trans (hMb'.out.mono hsq)
        have hrow1 : Hid (Row .u64 B64 79 wm gr L R) := hrow.out.of_block (hMb'.out.block _ hrow.out.lt)
        have hrq1 : Hid (Row .u64 B64 79 wm w2.heap.size m (mix B64 0 (X / Y) (j + 1))) := hrq.out.of_block (hMb'.out.block _ hrq.out.lt)
        have hpart1 := Lib.hid P1
        have hr2 : r ≤ n + 1 := by
          refine IsLen.le hMl'.out (Nat.lt_of_lt_of_eq (Nat.mul_lt_mul'' GG.out.2 K.out.lt) ?_)
          rw [Nat.pow_succ, Nat.mul_comm]
        clear P1 hpart hrow hrq hbel Kq hlit hMb'
        by_cases hlt : P < g * Y
        · have hS := Lib.hid (natSub_below _ _ P (g * Y) (n + 1) r wm hpart1.out hM'.out hlt)
          obtain ⟨g', rfl⟩ : ∃ g', g = g' + 1 := by
            rcases Nat.eq_zero_or_pos g with h0 | h0
            · subst h0; omega
            · exact ⟨g - 1, by omega⟩
          have hg1 : (g' : Int) + 1 < 18446744073709551616 := by
            have := GG.out.2
            rw [B64_eq] at this
            omega
          have GG1 : Hid (P / Y ≤ g' ∧ g' < B64) := by
            refine ⟨?_, by have := GG.out.2; omega⟩
            have : P / Y < g' + 1 := (Nat.div_lt_iff_lt_mul hY0.out).2 hlt
            omega
          clear hlt GG
          go_wp2_with fail
          refine hS.out.mono ?_
          rintro e w3 ⟨rfl, nd, rfl⟩
          simp only [errN]
          go_wp2_with fail
          refine (errIs_same 8 _).mono ?_
          rintro e w3 ⟨rfl, rfl⟩
          go_wp2_with fail
          go_step3
          refine ⟨rfl, ⟨g', _, _, _, _, _, _, _, _, _, _, _, _, _, _, _, _, _, _, _, _, _, _, _, _, _, _, _, _, _, _, _, _, _, _, _, _, _, _, _, _, _, _, _, _, _, _, _, _, _, _, _, _, _, _, rfl, GG1, hpart1.out.drewN nd, hrow1.out.drewN nd, hrq1.out.drewN nd, below_drewN hbel1.out nd⟩, ?_⟩
          simp [intOf]
        · have hle : g * Y ≤ P := by omega
          have hS := Lib.hid (natSubA_calls _ _ P (g * Y) (n + 1) r wm hpart1.out hM'.out (by omega) (by omega) hle)
          have hgq : g = P / Y := by
            have h1 := (Nat.le_div_iff_mul_le hY0.out).2 hle
            have := GG.out.1
            omega
          have hlf : P - g * Y = P % Y := by
            have h1 := Nat.div_add_mod P Y
            rw [hgq, Nat.mul_comm]
            omega
          have hgd : Hid (g = dig B64 (X / Y) j) := hgq.trans SS.out.1
          rw [hlf] at hS
          clear hle hlt hgq hlf GG hM'
          go_wp2_with fail
          refine hS.out.mono ?_
          rintro e ws ⟨gL, r2, rfl, hgL, hL1, hL2, hb2⟩
          have hL1' := Lib.hid hL1
          have hr3 : r2 ≤ n + 1 := by
            refine IsLen.le hL2 (Nat.lt_of_le_of_lt (Nat.mod_le _ _) SS.out.2.2)
          have hneL : gL ≠ gr := by
            have := hrow1.out.lt
            omega
          have hneq : w2.heap.size ≠ gr := Ne.symm hne
          have hrow2 : Hid (Row .u64 B64 79 ws gr L R) := hrow1.out.of_block (hb2.block _ hrow1.out.lt)
          have hrq2 : Hid (Row .u64 B64 79 ws w2.heap.size m (mix B64 0 (X / Y) (j + 1))) := hrq1.out.of_block (hb2.block _ hrq1.out.lt)
          have hbel2 : Hid (Below w.heap.size w ws) := hbel1.out.trans (hb2.mono hbel1.out.size)
          clear hL1 hL2 hb2 hS hrow1 hrq1 hbel1 hpart1
          go_wp2_with fail
          refine (errIs_nil 8 _).mono ?_
          rintro e w3 ⟨rfl, rfl⟩
          have hfin : Hid (∀ f : Nat → Value, (∀ i, f i = if j ≤ i ∧ i < j + r2 then .int .u64 (dig B64 (P % Y) (i - j) : Nat) else if j ≤ i ∧ i < j + (n + 1) then .int .u64 0 else .int .u64 (dig B64 R i : Nat)) → ∀ w', OwnRow w' gr 79 L f → Row .u64 B64 79 w' gr L (X % (Y * B64 ^ j))) := by
            intro f hf w' hw
            refine ⟨hw.congr fun i hi => ?_, Nat.lt_of_le_of_lt (Nat.mod_le _ _) hXL.out⟩
            rw [hf i, ← SS.out.2.1, back_dig B64_pos]
            by_cases h1 : i < j
            · rw [if_neg (by omega), if_neg (by omega), if_pos h1]
            · rw [if_neg h1]
              by_cases h2 : i < j + r2
              · rw [if_pos ⟨by omega, h2⟩]
              · rw [if_neg (by omega), dig_ge B64_pos hL1'.out.lt (by omega)]
                by_cases h3 : i < j + (n + 1)
                · rw [if_pos ⟨by omega, h3⟩]; rfl
                · rw [if_neg (by omega)]
                  have : dig B64 R i = 0 := by
                    have h4 : R < B64 ^ (j + (n + 1)) := by
                      have h5 := SS.out.2.2
                      rw [hP2.out, Nat.div_lt_iff_lt_mul (Nat.pow_pos B64_pos), ← Nat.pow_add] at h5
                      rw [Nat.add_comm]; exact h5
                    exact dig_ge B64_pos h4 (by omega)
                  rw [this]
          go_wp2_with (first
            | (refine wpList_clear_row rfl (.tmp 72) 22 79 (.int .u64 0) rfl Tryz.underlying22 zero64 rfl rfl gr j (n + 1) (c2 - j) L _ rfl (by omega) hrow2.out.1 (by omega) ?_; intro wc hc ho; have hc' := Lib.hid hc; have ho' := Lib.hid ho; clear hc ho)
            | (refine wpList_copy_row rfl (.tmp 73) (.tmp 74) 22 79 rfl Tryz.underlying22 size64 gr j (n + 1) (c2 - j) L _ rfl .u64 B64 (P % Y) r2 r2 (some ⟨gL, 0, none⟩) rfl (ho'.out.num hL1'.out (fun ad e => by cases e; exact hneL)) hr3 hc'.out (by omega) ?_; intro wd hd hp; have hd' := Lib.hid hd; have hp' := Lib.hid (ho'.out.trans hp); have hrq3 : Hid (Row .u64 B64 79 wd w2.heap.size m (mix B64 0 (X / Y) (j + 1))) := hrq2.out.of_block (hp'.out.block _ hneq); have hfz := hrq3.out.frozen j; have hcl := hrq3.out.cell (show j < m by omega); clear hd hp hc'))
          have hrow4 : Hid (Row .u64 B64 79 (wd.setCell ⟨w2.heap.size, j, none⟩ (.int .u64 g)) gr L (X % (Y * B64 ^ j))) :=
            (hfin.out _ (fun i => rfl) _ hd'.out).of_block (Below.heap_setCell _ _ _ _ (Ne.symm hneq))
          have hrq4 : Hid (Row .u64 B64 79 (wd.setCell ⟨w2.heap.size, j, none⟩ (.int .u64 g)) w2.heap.size m (mix B64 0 (X / Y) j)) := by
            refine hrq3.out.set j _ (mix B64 0 (X / Y) j) (mix_lt B64_pos (by omega) hXY.out) (fun t => ?_)
            rw [mix_down B64_pos, hgd.out]
          have hbel4 : Hid (Below w.heap.size w (wd.setCell ⟨w2.heap.size, j, none⟩ (.int .u64 g))) := (hp'.out.below hbel2.out hgr).setCell hB2s _
          simp only [Exit.jump]
          go_wp2_with fail
          go_roundw
          case rel => exact ⟨j, by go_num, by omega, hrow4, hrq4, hbel4⟩
          case measure => simp [intOf]; try omega
    | zero =>
      have hq := hrq.out.num (by omega)
      have hr := hrow.out.numc c2 hrc hc2
      rw [mix_zero] at hq
      rw [Nat.pow_zero, Nat.mul_one] at hr
      have hq' := Lib.hid hq
      have hr' := Lib.hid hr
      clear hq hr hrq hrow
      go_wp2_with fail
      refine (natPlain_calls _ m (X / Y) wr hq'.out).mono ?_
      rintro e w' ⟨C, r, rfl, rfl, hr1, HC, hlc⟩
      have HC' := Lib.hid HC
      have hlc' := Lib.hid hlc
      clear HC hlc
      go_wp2_with fail
      refine (natPlain_calls _ L (X % Y) _ hr'.out).mono ?_
      rintro e w' ⟨D, s, rfl, rfl, hs1, HD, hld⟩
      have HD' := Lib.hid HD
      have hld' := Lib.hid hld
      clear HD hld
      go_wp2_with fail
      go_ret2
      exact ⟨C, r, D, s, rfl, HC'.out, hlc'.out, HD'.out, hld'.out, hbel.out⟩
end Go.Proofs.YtmobnjlbbhhedaaGreatDoor
