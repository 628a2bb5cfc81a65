/- The walks of nat.Add and nat.Sub. -/
import Derived.Test.YtmobnjlbbhhedaaGreatDoorNatA
import Derived.Laws.Externs
import Derived.StillTailTactics
import Derived.WalkSmall
import Derived.Deep.RegionWith
set_option linter.unusedVariables false
set_option linter.unusedSimpArgs false
namespace Go.Proofs.YtmobnjlbbhhedaaGreatDoor
open Go.RowKit
attribute [local go_sem high] run_max_nat run_min_nat

theorem info64 : (Tryz.prog.info? 79).map (fun i => (i.zero, i.size, i.bytes)) = some (some (.int .u64 0), 1, 8) := by kernel_rfl

theorem run_Add64 (x y c : Nat) (hc : c ≤ 1) (w : World) :
    (callFunc 77 #[.int .u64 x, .int .u64 y, .int .u64 c]).run Tryz.prog w = .ok (.value (.tuple #[.int .u64 ((x + y + c) % B64 : Nat), .int .u64 ((x + y + c) / B64 : Nat)])) w := by
  rw [run_callFunc_extern Tryz.func77 (by kernel_rfl) (by kernel_rfl) (by kernel_rfl) (e := add64Entry) (by kernel_rfl), run_add64 x y c (by omega) (by omega) (by omega) (by omega)]
  simp only [Result.andThen, B64_eq]
  congr 5 <;> omega

/-- The world's own entry of Sub64. -/
def sub64E : Array Value → Sem Value := fun args => do
  let (x, y, b) ← Extern.MathBitsCarry.three "Sub64" args
  pure (Extern.MathBitsCarry.pair ((x + Extern.MathBitsCarry.m64 - y - b) % Extern.MathBitsCarry.m64) (if x < y + b then 1 else 0))
theorem run_sub64E (x y b : Nat) (hb : b ≤ 1) (w : World) (P : Program) :
    (sub64E #[.int .u64 x, .int .u64 y, .int .u64 b]).run P w =
      .ok (.tuple #[.int .u64 (((x + B64 - y - b) % B64 : Nat) : Int), .int .u64 ((if x < y + b then 1 else 0 : Nat) : Int)]) w := by
  have : b = 0 ∨ b = 1 := by omega
  rcases this with rfl | rfl <;> rfl
theorem run_Sub64 (x y b : Nat) (hb : b ≤ 1) (w : World) :
    (callFunc 82 #[.int .u64 x, .int .u64 y, .int .u64 b]).run Tryz.prog w = .ok (.value (.tuple #[.int .u64 (((x + B64 - y - b) % B64 : Nat) : Int), .int .u64 ((if x < y + b then 1 else 0 : Nat) : Int)])) w := by
  rw [run_callFunc_extern Tryz.func82 (by kernel_rfl) (by kernel_rfl) (by kernel_rfl) (e := sub64E) (by kernel_rfl), run_sub64E x y b hb]
  rfl

set_option maxHeartbeats 1000000 in
set_option maxRecDepth 100000 in
theorem natAdd_calls (v u : Value) (X Y n m : Nat) (w : World) (h : Num .u64 B64 w v X n) (k : Num .u64 B64 w u Y m) (hn : n ≤ 20000) (hm : m ≤ 20000) :
    Calls Tryz.prog 98 #[v, u] w fun e w' => ∃ A r, e = .returned (.slice A r r) ∧ Num .u64 B64 w' (.slice A r r) (X + Y) r ∧ IsLen B64 (X + Y) r ∧ Below w.heap.size w w' := by
  have H := Lib.hid h
  have K := Lib.hid k
  clear h k
  go_enter Tryz.func98, Tryz.ntmps98
  go_wp2_with fail
  refine (natPlain_calls v n X w H.out).mono ?_
  rintro e w' ⟨A, a, rfl, rfl, ha, HA, hla⟩
  go_wp2_with fail
  refine (natPlain_calls u m Y w K.out).mono ?_
  rintro e w' ⟨B, b, rfl, rfl, hb, HB, hlb⟩
  clear H K
  have HA' := Lib.hid HA
  have HB' := Lib.hid HB
  have hla' := Lib.hid hla
  have hlb' := Lib.hid hlb
  clear HA HB hla hlb
  have hmk := run_make_row' (P := Tryz.prog) 22 79 (.int .u64 0) 8 Tryz.underlying22 info64 rfl .i64 .i64 (max a b + 1) (by omega) (by omega)
  have ec : ((max a b + 1 : Nat) : Int) = (max a b : Nat) + 1 := by omega
  rw [ec] at hmk
  clear ec
  go_wp2_with fail
  clear hmk
  go_loopw [6, 21] (fun v6 v21 wr => ∃ i : Nat, v21 = .int .i64 i ∧ i ≤ max a b + 1 ∧ v6 = .int .u64 (cry B64 X Y i : Nat) ∧ Hid (Row .u64 B64 79 wr w.heap.size (max a b + 1) ((X + Y) % B64 ^ i)) ∧ Hid (Below w.heap.size w wr)) (fun _ v _ => max a b + 1 - (intOf v).toNat)
  case atStart =>
    refine ⟨0, rfl, Nat.zero_le _, by rw [cry_zero]; rfl, ?_, ((Below.refl _ _).alloc (Nat.le_refl _) _)⟩
    rw [Nat.pow_zero, Nat.mod_one]
    exact Row.made B64_pos _ _ _
  case round =>
    obtain ⟨i, rfl, hi, rfl, hrow, hbel⟩ := hrel
    by_cases hlt : i < max a b + 1
    · have hadd := fun w => run_Add64 (dig B64 X i) (dig B64 Y i) (cry B64 X Y i) (cry_le B64_pos X Y i) w
      rw [sum_dig B64_pos, sum_cry B64_pos] at hadd
      have hcell := hrow.out.cell hlt
      have hfz := hrow.out.frozen i
      go_wp2_with fail
      refine (natLimb_calls _ a X i wr (HA'.out.below hbel.out) (by omega)).mono ?_
      rintro e w' ⟨rfl, rfl⟩
      go_wp2_with fail
      refine (natLimb_calls _ b Y i wr (HB'.out.below hbel.out) (by omega)).mono ?_
      rintro e w' ⟨rfl, rfl⟩
      go_wp2_with fail
      go_roundw
      case rel => exact ⟨i + 1, by go_num, by omega, rfl, Row.next B64_pos hrow.out hlt, hbel.out.setCell (Nat.le_refl _) _⟩
      case measure => simp [intOf]; omega
    · obtain rfl : i = max a b + 1 := by omega
      have hs := Lib.hid (add_lt_pow (by decide) hla'.out.1 hlb'.out.1 : X + Y < B64 ^ (max a b + 1))
      go_wp2_with fail
      refine (natPlain_calls _ (max a b + 1) (X + Y) wr ?_).mono ?_
      · have hr := hrow.out.num (by omega)
        rw [Nat.mod_eq_of_lt hs.out] at hr
        exact hr
      rintro e w' ⟨C, r, rfl, rfl, hr, HC, hlc⟩
      go_wp2
      go_ret
      exact ⟨C, r, rfl, HC, hlc, hbel.out⟩

set_option maxHeartbeats 1000000 in
set_option maxRecDepth 100000 in
/-- Sub, where there is a difference; it lies in memory of its own. -/
theorem natSubA_calls (v u : Value) (X Y n m : Nat) (w : World) (h : Num .u64 B64 w v X n) (k : Num .u64 B64 w u Y m) (hn : n ≤ 20000) (hm : m ≤ 20000) (hle : Y ≤ X) :
    Calls Tryz.prog 57 #[v, u] w fun e w' => ∃ g r, e = .returned (.tuple #[.slice (some ⟨g, 0, none⟩) r r, .nilIface]) ∧ w.heap.size ≤ g ∧ Num .u64 B64 w' (.slice (some ⟨g, 0, none⟩) r r) (X - Y) r ∧ IsLen B64 (X - Y) r ∧ Below w.heap.size w w' := by
  have H := Lib.hid h
  have K := Lib.hid k
  clear h k
  go_enter Tryz.func57, Tryz.ntmps57
  go_wp2_with fail
  refine (natPlain_calls v n X w H.out).mono ?_
  rintro e w' ⟨A, a, rfl, rfl, ha, HA, hla⟩
  go_wp2_with fail
  refine (natPlain_calls u m Y w K.out).mono ?_
  rintro e w' ⟨B, b, rfl, rfl, hb, HB, hlb⟩
  clear H K
  have HA' := Lib.hid HA
  have HB' := Lib.hid HB
  have hla' := Lib.hid hla
  have hlb' := Lib.hid hlb
  clear HA HB hla hlb
  go_wp2_with fail
  refine (natCmp_calls _ _ X Y a b w HA'.out HB'.out).mono ?_
  rintro e w' ⟨rfl, nd, rfl⟩
  have hc : decide (cmpN X Y < 0) = false := by
    have := cmpN_nonneg X Y
    simp; omega
  have hle' := Lib.hid hle
  clear hle
  have hmk := run_make_row' (P := Tryz.prog) 22 79 (.int .u64 0) 8 Tryz.underlying22 info64 rfl .i64 .i64 a (by omega) (by omega)
  go_wp2_with fail
  clear hmk
  go_loopw [7, 23] (fun v6 v21 wr => ∃ i : Nat, v21 = .int .i64 i ∧ i ≤ a ∧ v6 = .int .u64 (lent B64 X Y i : Nat) ∧ Hid (Row .u64 B64 79 wr w.heap.size a ((X - Y) % B64 ^ i)) ∧ Hid (Below w.heap.size w wr)) (fun _ v _ => a - (intOf v).toNat)
  case atStart =>
    refine ⟨0, rfl, Nat.zero_le _, by rw [lent_zero]; rfl, ?_, ?_⟩
    · rw [Nat.pow_zero, Nat.mod_one]
      exact Row.made B64_pos _ _ _
    · exact below_drewN ((Below.refl _ _).alloc (Nat.le_refl _) _) _
  case round =>
    obtain ⟨i, rfl, hi, rfl, hrow, hbel⟩ := hrel
    by_cases hlt : i < a
    · have hsub := fun w => run_Sub64 (dig B64 X i) (dig B64 Y i) (lent B64 X Y i) (lent_le B64 X Y i) w
      rw [sub_dig B64_pos hle'.out, sub_lent B64_pos hle'.out] at hsub
      have hcell := hrow.out.cell hlt
      have hfz := hrow.out.frozen i
      obtain ⟨ad, rfl, hca⟩ := (HA'.out.below hbel.out).cell hlt
      go_wp2_with fail
      go_region_with (go_at_call 81; refine (natLimb_calls _ b Y i _ ?_ (by omega)).mono ?_; exact (HB'.out.below hbel.out.drew); rintro e w' ⟨rfl, rfl⟩)
      all_goals
        go_wp2_with fail
        go_roundw
        case rel => exact ⟨i + 1, by go_num, by omega, rfl, Row.next B64_pos (hrow.out.drewN 1) hlt, hbel.out.drew.setCell (Nat.le_refl _) _⟩
        case measure => simp [intOf]; omega
    · obtain rfl : i = a := by omega
      have hs := Lib.hid (Nat.lt_of_le_of_lt (Nat.sub_le X Y) hla'.out.1)
      go_wp2_with fail
      have hnum : Hid (Num .u64 B64 wr (.slice (some ⟨w.heap.size, 0, none⟩) i i) (X - Y) i) := by
        have hr := hrow.out.num (by omega)
        rw [Nat.mod_eq_of_lt hs.out] at hr
        exact hr
      refine (natPlain_walk _ i i (X - Y) wr hnum.out).mono ?_
      rintro e w' ⟨r, rfl, rfl, hr, hlc⟩
      have HC := Lib.hid (hnum.out.take hr hlc.1 r (Nat.le_refl _) (by omega))
      have hlc' := Lib.hid hlc
      clear hlc
      go_wp2_with fail
      go_ret2
      exact ⟨_, r, rfl, Nat.le_refl _, HC.out, hlc'.out, hbel.out⟩
theorem natSub_calls (v u : Value) (X Y n m : Nat) (w : World) (h : Num .u64 B64 w v X n) (k : Num .u64 B64 w u Y m) (hn : n ≤ 20000) (hm : m ≤ 20000) (hle : Y ≤ X) :
    Calls Tryz.prog 57 #[v, u] w fun e w' => ∃ A r, e = .returned (.tuple #[.slice A r r, .nilIface]) ∧ Num .u64 B64 w' (.slice A r r) (X - Y) r ∧ IsLen B64 (X - Y) r ∧ Below w.heap.size w w' :=
  (natSubA_calls v u X Y n m w h k hn hm hle).mono fun _ _ ⟨g, r, h1, _, h2⟩ => ⟨_, r, h1, h2⟩
/-- An error of the project's own type. -/
def errN (n : Int) : Value := .iface 57 (.int .i64 n)

set_option maxHeartbeats 1000000 in
theorem natSub_below (v u : Value) (X Y n m : Nat) (w : World) (h : Num .u64 B64 w v X n) (k : Num .u64 B64 w u Y m) (hlt : X < Y) :
    Calls Tryz.prog 57 #[v, u] w fun e w' => e = .returned (.tuple #[.slice none 0 0, errN 8]) ∧ ∃ nd, w' = w.drewN nd := by
  have H := Lib.hid h
  have K := Lib.hid k
  clear h k
  go_enter Tryz.func57, Tryz.ntmps57
  go_wp2_with fail
  refine (natPlain_calls v n X w H.out).mono ?_
  rintro e w' ⟨A, a, rfl, rfl, ha, HA, hla⟩
  go_wp2_with fail
  refine (natPlain_calls u m Y w K.out).mono ?_
  rintro e w' ⟨B, b, rfl, rfl, hb, HB, hlb⟩
  clear H K
  have HA' := Lib.hid HA
  have HB' := Lib.hid HB
  clear HA HB hla hlb
  go_wp2_with fail
  refine (natCmp_calls _ _ X Y a b w HA'.out HB'.out).mono ?_
  rintro e w' ⟨rfl, nd, rfl⟩
  have hc : decide (cmpN X Y < 0) = true := by
    have := cmpN_neg X Y
    simp; omega
  clear hlt
  go_wp2_with fail
  go_ret2
  exact ⟨rfl, _, rfl⟩

end Go.Proofs.YtmobnjlbbhhedaaGreatDoor
