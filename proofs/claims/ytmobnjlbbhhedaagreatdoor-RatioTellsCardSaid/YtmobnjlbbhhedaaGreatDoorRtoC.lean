/- The walk of ratio.Text. -/
import Derived.Test.YtmobnjlbbhhedaaGreatDoorRto
import Derived.Test.YtmobnjlbbhhedaaGreatDoorTextB
set_option linter.unusedVariables false
set_option linter.unusedSimpArgs false
namespace Go.Proofs.YtmobnjlbbhhedaaGreatDoor
open Go.RowKit

/-- A right ratio. -/
def RightR (s : Bool) (X n : Nat) (s' : Bool) (X' n' : Nat) : Prop := IsPlain s X n ∧ IsPlain s' X' n' ∧ s' = false ∧ 0 < X' ∧ Nat.gcd X X' = 1
/-- A right ratio's text. -/
def ratText (Z : Int) (D : Nat) : List UInt8 := if D = 1 then Lib.itoa Z else Lib.itoa Z ++ 47 :: Lib.decDigits D
theorem len2_gt {X l : Nat} (h : IsLen 2 X l) : 1 < l ↔ 1 < X := by
  constructor
  · intro hl
    rcases Nat.lt_or_ge 1 X with h1 | h1
    · exact h1
    · have := h.2 1 (by omega)
      omega
  · intro hX
    have h1 := h.1
    rcases Nat.lt_or_ge 1 l with h2 | h2
    · exact h2
    · have : 2 ^ l ≤ 2 ^ 1 := Nat.pow_le_pow_right (by decide) h2
      omega
theorem itoa_len {X n : Nat} (s : Bool) (h : X < B64 ^ n) : (Lib.itoa (sgn s X)).length ≤ 64 * n + 2 := by
  have := digits_bound h
  rw [itoa_sgn]
  split
  · simp; omega
  · omega
theorem itoa_pos (X : Nat) : Lib.itoa (sgn false X) = Lib.decDigits X := by
  rw [itoa_sgn]; rfl
theorem str_app3 (x y z : List UInt8) : Value.string ((⟨x.toArray⟩ : ByteArray) ++ (⟨y.toArray⟩ ++ ⟨z.toArray⟩)) = .string ⟨(x ++ (y ++ z)).toArray⟩ := by
  rw [ByteArray.mk_append_mk, ByteArray.mk_append_mk]
set_option maxHeartbeats 2000000 in
set_option maxRecDepth 100000 in
theorem rtext_calls (s : Bool) (A : Option Addr) (n c X : Nat) (s' : Bool) (A' : Option Addr) (n' c' X' : Nat) (w : World) (h : Num .u64 B64 w (.slice A n c) X n) (k : Num .u64 B64 w (.slice A' n' c') X' n') (hn : n ≤ 100) (hn' : n' ≤ 100) (hT : TabAt w) (htab : Lib.TabIs Tryz.prog w "internal/strconv.uint64pow10" .u64 Lib.pow10Tab) :
    Calls Tryz.prog 20 #[.agg #[.bool s, .slice A n c, .bool s', .slice A' n' c']] w fun e w' =>
      (RightR s X n s' X' n' → e = .returned (.tuple #[.string ⟨(ratText (sgn s X) X').toArray⟩, .nilIface])) ∧ (¬ RightR s X n s' X' n' → e = .returned (.tuple #[.string ⟨#[]⟩, errN 6])) ∧ Below w.heap.size w w' := by
  have H := Lib.hid h
  have K := Lib.hid k
  have T := Lib.hid hT
  have TW := Lib.hid (Lib.tabBelow_of_tabIs htab)
  clear h k hT htab
  go_enter Tryz.func20, Tryz.ntmps20
  go_wp2_with fail
  have B0 : Below w.heap.size w (w.alloc (.cells #[.bool s, .slice A n c, .bool s', .slice A' n' c'] 26)) := (Below.refl _ _).alloc (Nat.le_refl _) _
  obtain ⟨d0, d1, d2, d3⟩ := cells4 (w := w) (s := s) (A := A) (n := n) (c := c) (s' := s') (A' := A') (n' := n') (c' := c') (t := 26)
  refine (right_calls s A n c X s' A' n' c' X' _ (H.out.below B0) (K.out.below B0) hn hn' (T.out.below B0)).mono ?_
  rintro e w1 ⟨b1, rfl, hb1, hb⟩
  have B1 := Lib.hid (below_next' B0 hb)
  replace d0 := cell_below hb d0
  replace d1 := cell_below hb d1
  replace d2 := cell_below hb d2
  replace d3 := cell_below hb d3
  have P1 : Hid (b1 = true ↔ RightR s X n s' X' n') := hb1
  clear hb hb1 B0
  cases b1 with
  | false =>
    have hno : Hid (¬ RightR s X n s' X' n') := fun h => by have := P1.out.2 h; cases this
    clear P1
    go_wp2_with fail
    go_ret2
    exact ⟨fun h => absurd h hno.out, fun _ => rfl, B1.out⟩
  | true =>
    have hyes : Hid (RightR s X n s' X' n') := P1.out.1 rfl
    clear P1
    obtain ⟨tx, htx⟩ : ∃ tx, tx = Lib.itoa (sgn s X) := ⟨_, rfl⟩
    have htl : tx.length ≤ 6500 := by rw [htx]; have := itoa_len s H.out.lt; omega
    have tc := Lib.hid (fun w h ht => text_calls s A c X n w h (by omega) ht)
    rw [← htx] at tc
    have htxH := Lib.hid htx
    clear htx
    go_wp2_with fail
    refine (tc.out _ (H.out.below B1.out) (TW.out _ B1.out)).mono ?_
    rintro e w2 ⟨rfl, hb⟩
    have B2 := Lib.hid (below_next' B1.out hb)
    replace d0 := cell_below hb d0
    replace d1 := cell_below hb d1
    replace d2 := cell_below hb d2
    replace d3 := cell_below hb d3
    clear hb B1 tc
    simp only [str]
    go_wp2_with fail
    refine (natLen_calls _ X' n' _ (K.out.below B2.out) (by omega)).mono ?_
    rintro e w' ⟨l, rfl, hl, rfl⟩
    have hl1 := len2_gt hl
    have hX0 := hyes.out.2.2.2.1
    by_cases h1 : X' = 1
    · have e1 : l ≤ 1 := by omega
      have hfin : Hid (ratText (sgn s X) X' = tx) := by show _ = _; rw [ratText, if_pos h1, htxH.out]
      clear hl hl1 h1 hX0
      go_wp2_with fail
      go_ret2
      exact ⟨fun _ => by rw [hfin.out]; rfl, fun h => absurd hyes.out h, B2.out⟩
    · have e1 : 1 < l := by omega
      obtain ⟨ty, hty⟩ : ∃ ty, ty = Lib.itoa (sgn s' X') := ⟨_, rfl⟩
      have htl2 : ty.length ≤ 6500 := by rw [hty]; have := itoa_len s' K.out.lt; omega
      have tc := Lib.hid (fun w h ht => text_calls s' A' c' X' n' w h (by omega) ht)
      rw [← hty] at tc
      have hfin : Hid (ratText (sgn s X) X' = tx ++ ([47] ++ ty)) := by
        show _ = _
        rw [ratText, if_neg h1, ← htxH.out, hty, hyes.out.2.2.1, itoa_pos]
        rfl
      clear hl hl1 h1 hX0 hty
      go_wp2_with fail
      refine (tc.out _ (K.out.below B2.out) (TW.out _ B2.out)).mono ?_
      rintro e w3 ⟨rfl, hb⟩
      have B3 := Lib.hid (below_next' B2.out hb)
      clear hb B2 tc d0 d1 d2 d3
      simp only [str]
      go_wp2_with fail
      go_ret2
      exact ⟨fun _ => by rw [hfin.out]; exact congrArg (fun v => Ending.returned (.tuple #[v, .nilIface])) (str_app3 tx [47] ty), fun h => absurd hyes.out h, B3.out⟩
end Go.Proofs.YtmobnjlbbhhedaaGreatDoor
