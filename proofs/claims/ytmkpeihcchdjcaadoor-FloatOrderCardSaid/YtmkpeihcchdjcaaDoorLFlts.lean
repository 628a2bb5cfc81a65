/- The walks of the statements FloatParts, FloatCmp, FloatOrder. -/
import Derived.Test.YtmkpeihcchdjcaaDoorFltS
import Derived.Test.YtmkpeihcchdjcaaDoorRefJ
set_option linter.unusedVariables false
set_option linter.unusedSimpArgs false
namespace Go.Proofs.YtmkpeihcchdjcaaDoor
open Go.RowKit

theorem Handle.drewN {w : World} (h : Handle w) (n : Nat) : Handle (w.drewN n) := h
theorem TabAt.drewN {w : World} (h : TabAt w) (n : Nat) : TabAt (w.drewN n) := h
theorem below_nx {w w1 w2 : World} (h : Below w.heap.size w w1) (k : Below w1.heap.size w1 w2) : Below w.heap.size w w2 := h.trans (k.mono h.size)
theorem parts_unique {x : Nat} {s t : Bool} {m n : Nat} {y z : Int} (h : PartsOf x s m y) (k : PartsOf x t n z) : s = t ∧ m = n ∧ y = z := by
  rcases h with ⟨h0, rfl, rfl, rfl⟩ | ⟨h0, rfl, hm, j, hj, rfl⟩
  · rcases k with ⟨_, rfl, rfl, rfl⟩ | ⟨k0, _⟩
    · exact ⟨rfl, rfl, rfl⟩
    · exact absurd h0 k0
  · rcases k with ⟨k0, _⟩ | ⟨_, rfl, hn, i, hi, rfl⟩
    · exact absurd k0 h0
    · obtain ⟨rfl, rfl⟩ := odd_unique hm hn (hj.trans hi.symm)
      exact ⟨rfl, rfl, rfl⟩
theorem mant_zero {x : Nat} (hx : x < 18446744073709551616) : mantOf x = 0 ↔ normN x = 0 := by
  unfold mantOf normN
  repeat' split
  all_goals omega
theorem norm_of_not {x : Nat} (h : normN x ≠ 0) : normN x = x := by
  unfold normN at h ⊢
  split <;> simp_all
theorem norm_nofin {x : Nat} (h : finB x = false) : normN x = x := by
  unfold normN
  split
  · rename_i hx
    subst hx
    exact absurd h (by decide)
  · rfl
theorem awk_parts {v : Value} (h : FPartsIs 4609434218613702656 v) : v = .tuple #[.bool false, .int .u64 3, .int .i64 (-1), .nilIface] := by
  rcases h with ⟨h0, _⟩ | ⟨_, s, m, z, rfl, hp⟩
  · exact absurd h0 (by decide)
  · have hq : PartsOf 4609434218613702656 false 3 (-1) := .inr ⟨by decide, by decide, by decide, 51, by decide, by decide⟩
    obtain ⟨rfl, rfl, rfl⟩ := parts_unique hp hq
    rfl
theorem awk_cmp {v : Value} (h : CmpIs 9223372036854775808 0 v) : v = .tuple #[.int .i64 0, .nilIface] := by
  rcases h with ⟨_, _, rfl⟩ | ⟨h0 | h0, _⟩
  · have : val 9223372036854775808 - val 0 = 0 := by decide
    rw [this]; rfl
  · exact absurd h0 (by decide)
  · exact absurd h0 (by decide)
theorem finB_inf : finB 9218868437227405312 = false := by decide
set_option maxRecDepth 100000 in
theorem awake5_calls (w : World) (hT : TabAt w) :
    Calls Tryd.prog 8 #[] w fun e w' => e = .returned (.bool true) ∧ ∃ nd, w' = w.drewN nd := by
  have cp := Lib.hid (fparts_calls 4609434218613702656 (by omega) w hT)
  clear hT
  have cc := Lib.hid (fcmp_calls 9223372036854775808 0 (by omega) (by omega))
  have cf := ffinite_calls 9218868437227405312 (by omega)
  rw [finB_inf] at cf
  have cf' := Lib.hid cf
  clear cf
  go_enter Tryd.func8, Tryd.ntmps8
  go_wp2_with fail
  refine cp.out.mono ?_
  rintro e w' ⟨v, rfl, hv, nd, rfl⟩
  obtain rfl := awk_parts hv
  clear hv
  go_wp2_with fail
  refine (cc.out _).mono ?_
  rintro e w' ⟨v, rfl, hv, rfl⟩
  obtain rfl := awk_cmp hv
  clear hv
  go_wp2_with fail
  refine (cf'.out _).mono ?_
  rintro e w' ⟨rfl, rfl⟩
  go_wp2_with fail
  go_ret
  exact ⟨rfl, nd, rfl⟩

set_option maxHeartbeats 1000000 in
set_option maxRecDepth 100000 in
theorem floatParts_walk (x : Nat) (w : World) (hx : x < 18446744073709551616) (hG : Handle w) (hT : TabAt w) :
    Calls Tryd.prog 4 #[.int .u64 x] w fun e w' => e = .returned (.bool true) ∧ Below w.heap.size w w' := by
  have ca := Lib.hid (awake5_calls w hT)
  have cp := Lib.hid (fun n => fparts_calls x hx (w.drewN n) (hT.drewN n))
  have cf := Lib.hid (ffinite_calls x hx)
  have cr := Lib.hid (rfinite_calls x hx)
  have cn := Lib.hid (norm_calls x)
  have GN : Hid (∀ n, Handle (w.drewN n)) := fun n => hG.drewN n
  have BN : Hid (∀ n, Below w.heap.size w (w.drewN n)) := fun n => below_drewN (Below.refl _ w) n
  have crp := Lib.hid (fun h w => parts_calls x hx h w)
  have hmz := Lib.hid (mant_zero hx)
  clear hG hT hx
  go_enter Tryd.func4, Tryd.ntmps4
  go_wp2_with fail
  refine ca.out.mono ?_
  rintro e w' ⟨rfl, n1, rfl⟩
  go_wp2_with fail
  refine (cp.out n1).mono ?_
  rintro e w' ⟨v, rfl, hv, n2, rfl⟩
  rcases hv with ⟨hb, rfl⟩ | ⟨hb, s, m, z, rfl, hp⟩
  · have hnn := Lib.hid (norm_nofin hb)
    have hb' := Lib.hid hb
    rw [hb] at cf cr
    rw [norm_nofin hb] at cn
    clear hb ca cp crp hmz hnn
    go_wp2_with fail
    refine (cf.out _).mono ?_
    rintro e w' ⟨rfl, rfl⟩
    go_wp2_with fail
    refine (cr.out _).mono ?_
    rintro e w' ⟨rfl, n3, rfl⟩
    go_wp2_with fail
    refine (cr.out _).mono ?_
    rintro e w' ⟨rfl, n4, rfl⟩
    go_wp2_with fail
    refine (code_calls 1 (by omega) _ (GN.out _)).mono ?_
    rintro e w' ⟨rfl, hbl⟩
    have B3 : Hid (Below w.heap.size w w') := (BN.out _).trans (by exact hbl)
    clear hbl BN GN
    go_wp2_with fail
    refine (cn.out _).mono ?_
    rintro e w2 ⟨rfl, rfl⟩
    go_wp2_with fail
    go_ret
    exact ⟨rfl, B3.out⟩
  · have hf := (finB_iff x).1 hb
    rw [hb] at cf cr
    have crp2 := Lib.hid (crp.out hf)
    have hp' := Lib.hid hp
    clear hb hf ca cp crp hp GN
    go_wp2_with fail
    refine (cf.out _).mono ?_
    rintro e w' ⟨rfl, rfl⟩
    go_wp2_with fail
    refine (cr.out _).mono ?_
    rintro e w' ⟨rfl, n3, rfl⟩
    go_wp2_with fail
    refine (cr.out _).mono ?_
    rintro e w' ⟨rfl, n4, rfl⟩
    go_wp2_with fail
    refine (crp2.out _).mono ?_
    rintro e w' ⟨v, rfl, ⟨s', m', k', z', rfl, _, _, _, _, hq⟩, n5, rfl⟩
    obtain ⟨rfl, rfl, rfl⟩ := parts_unique hp'.out hq
    rcases hq with ⟨h0, rfl, rfl, rfl⟩ | ⟨h0, _, hodd, _⟩
    · have hn0 : normN x = 0 := hmz.out.1 h0
      rw [hn0] at cn
      clear h0 hn0 hmz hp' crp2 cf cr
      go_wp2_with fail
      refine (cn.out _).mono ?_
      rintro e w2 ⟨rfl, rfl⟩
      go_wp2_with fail
      go_ret
      exact ⟨rfl, BN.out _⟩
    · have hn0 : normN x = x := norm_of_not (fun h => h0 (hmz.out.2 h))
      rw [hn0] at cn
      have hm0 : ((m : Int) == 0) = false := by simp; omega
      clear h0 hn0 hmz hp' hodd crp2 cf cr
      go_wp2_with fail
      refine (cn.out _).mono ?_
      rintro e w2 ⟨rfl, rfl⟩
      go_wp2_with fail
      go_ret
      exact ⟨rfl, BN.out _⟩

theorem cmpg_calls (v u : Value) (Za Zb : Int) (La Lb : Nat) (w : World) (h : RNum w v Za La) (k : RNum w u Zb Lb) (hLa : La ≤ 20000) (hLb : Lb ≤ 20000) :
    Calls Tryd.prog 12 #[v, u] w fun e w' => e = .returned (.int .i64 (sgz (Za - Zb))) ∧ Below w.heap.size w w' := cmpz_calls v u Za Zb La Lb w h k hLa hLb
set_option maxHeartbeats 1000000 in
set_option maxRecDepth 100000 in
theorem floatCmp_walk (a b : Nat) (w : World) (ha : a < 18446744073709551616) (hb : b < 18446744073709551616) (hG : Handle w) (hT : TabAt w) :
    Calls Tryd.prog 3 #[.int .u64 a, .int .u64 b] w fun e w' => e = .returned (.bool true) ∧ Below w.heap.size w w' := by
  have ca := Lib.hid (awake5_calls w hT)
  have cc := Lib.hid (fcmp_calls a b ha hb)
  have ra := Lib.hid (rfinite_calls a ha)
  have rb := Lib.hid (rfinite_calls b hb)
  have na := Lib.hid (fun h w => num_calls a ha h w)
  have nb := Lib.hid (fun h w => num_calls b hb h w)
  have GN : Hid (∀ n, Handle (w.drewN n)) := fun n => hG.drewN n
  have BN : Hid (∀ n, Below w.heap.size w (w.drewN n)) := fun n => below_drewN (Below.refl _ w) n
  obtain ⟨fa, hfa⟩ : ∃ fa, fa = finB a := ⟨_, rfl⟩
  obtain ⟨fb, hfb⟩ : ∃ fb, fb = finB b := ⟨_, rfl⟩
  rw [← hfa] at ra
  rw [← hfb] at rb
  have hfa' := Lib.hid hfa
  have hfb' := Lib.hid hfb
  clear hG hT ha hb hfa hfb
  go_enter Tryd.func3, Tryd.ntmps3
  go_wp2_with fail
  refine ca.out.mono ?_
  rintro e w' ⟨rfl, n1, rfl⟩
  go_wp2_with fail
  refine (cc.out _).mono ?_
  rintro e w' ⟨v, rfl, hv, rfl⟩
  rcases hv with ⟨h1, h2, rfl⟩ | ⟨h0, rfl⟩
  · obtain rfl : fa = true := hfa'.out.trans h1
    obtain rfl : fb = true := hfb'.out.trans h2
    have na2 := Lib.hid (na.out ((finB_iff a).1 h1))
    have nb2 := Lib.hid (nb.out ((finB_iff b).1 h2))
    clear h1 h2 hfa' hfb' na nb ca cc GN
    obtain ⟨z, hz⟩ : ∃ z, z = sgz (val a - val b) := ⟨_, rfl⟩
    rw [← hz]
    have hz' := Lib.hid hz
    clear hz
    go_wp2_with fail
    refine (ra.out _).mono ?_
    rintro e w' ⟨rfl, n2, rfl⟩
    go_wp2_with fail
    refine (rb.out _).mono ?_
    rintro e w' ⟨rfl, n3, rfl⟩
    clear ra rb
    go_wp2_with fail
    have B2 := Lib.hid (BN.out (n1 + n2 + n3))
    clear BN
    generalize w.drewN (n1 + n2 + n3) = W at *
    refine (na2.out _).mono ?_
    rintro e w2 ⟨v2, rfl, hR, hbl⟩
    have B3 : Hid (Below w.heap.size w w2) := below_nx B2.out hbl
    have R1 := Lib.hid hR
    clear hbl hR B2 na2
    go_wp2_with fail
    refine (nb2.out _).mono ?_
    rintro e w3 ⟨v3, rfl, hR, hbl⟩
    have B4 : Hid (Below w.heap.size w w3) := below_nx B3.out hbl
    replace R1 := Lib.hid (R1.out.below hbl)
    have R2 := Lib.hid hR
    clear hbl hR B3 nb2
    go_wp2_with fail
    refine (cmpg_calls _ _ _ _ _ _ _ R1.out R2.out (by omega) (by omega)).mono ?_
    rintro e w4 ⟨rfl, hbl⟩
    rw [← hz'.out]
    have B5 : Hid (Below w.heap.size w w4) := below_nx B4.out hbl
    clear hbl B4 hz' R1 R2
    go_wp2_with fail
    go_ret
    exact ⟨rfl, B5.out⟩
  · rw [← hfa'.out, ← hfb'.out] at h0
    clear na nb ca cc hfa' hfb'
    cases fa with
    | false =>
      clear h0
      go_wp2_with fail
      refine (ra.out _).mono ?_
      rintro e w' ⟨rfl, n2, rfl⟩
      clear ra rb
      go_wp2_with fail
      refine (code_calls 1 (by omega) _ (GN.out _)).mono ?_
      rintro e w' ⟨rfl, hbl⟩
      have B3 : Hid (Below w.heap.size w w') := (BN.out _).trans (by exact hbl)
      clear hbl BN GN
      go_wp2_with fail
      go_ret
      exact ⟨rfl, B3.out⟩
    | true =>
      obtain rfl : fb = false := by
        rcases h0 with h | h
        · cases h
        · exact h
      clear h0
      go_wp2_with fail
      refine (ra.out _).mono ?_
      rintro e w' ⟨rfl, n2, rfl⟩
      go_wp2_with fail
      refine (rb.out _).mono ?_
      rintro e w' ⟨rfl, n3, rfl⟩
      clear ra rb
      go_wp2_with fail
      refine (code_calls 1 (by omega) _ (GN.out _)).mono ?_
      rintro e w' ⟨rfl, hbl⟩
      have B3 : Hid (Below w.heap.size w w') := (BN.out _).trans (by exact hbl)
      clear hbl BN GN
      go_wp2_with fail
      go_ret
      exact ⟨rfl, B3.out⟩
end Go.Proofs.YtmkpeihcchdjcaaDoor
