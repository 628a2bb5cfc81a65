/- The walk of the statement FloatOrder. -/
import Derived.Test.YtmkpeihcchdjcaaDoorLFlts
set_option linter.unusedVariables false
set_option linter.unusedSimpArgs false
namespace Go.Proofs.YtmkpeihcchdjcaaDoor
open Go.RowKit

theorem sgz_wrap (a : Int) : IntKind.i64.wrap (-sgz a) = -sgz a := by
  have := sgz_range a
  exact IntWalk.i64_in _ (by omega)
/-- What is asked of the three answers, x, y, z, and of the other way round. -/
theorem order_plain (a b c : Nat) (ha : a < 18446744073709551616) (hb : b < 18446744073709551616) (fa : isFin a) (fb : isFin b) :
    sgz (val b - val a) = -sgz (val a - val b) ∧ ((sgz (val a - val b) == 0) = ((normN a : Int) == (normN b : Int))) := by
  constructor
  · rw [← sgz_neg]; congr 1; omega
  · have h1 := key_sgz ha hb fa fb
    have h2 := key_norm ha hb
    rw [← h1]
    by_cases h : keyI a = keyI b
    · have h3 := h2.1 h
      rw [h, h3, Int.sub_self]
      simp [sgz]
    · have h3 : normN a ≠ normN b := fun e => h (h2.2 e)
      have h4 : sgz (keyI a - keyI b) ≠ 0 := fun e => h (by have := (sgz_zero _).1 e; omega)
      have h5 : ((normN a : Int) == (normN b : Int)) = false := by simp; omega
      rw [h5]
      simpa using h4
/-- The code of what a comparison of these refuses. -/
def errOf (b : Bool) : Value := if b then .nilIface else errN 1
theorem code_of (b : Bool) (w : World) (h : Handle w) :
    Calls Tryd.prog 11 #[errOf b] w fun e w' => e = .returned (.int .i64 (if b then 0 else 1)) ∧ Below w.heap.size w w' := by
  cases b with
  | true => exact (code_nil w).mono fun e w' ⟨h1, h2⟩ => by subst h2; exact ⟨h1, Below.refl _ _⟩
  | false => exact code_calls 1 (by omega) w h
theorem fcmpB (a b : Nat) (ha : a < 18446744073709551616) (hb : b < 18446744073709551616) (w : World) :
    Calls Tryd.prog 9 #[.int .u64 a, .int .u64 b] w fun e w' => e = .returned (.tuple #[.int .i64 (if finB a && finB b then sgz (val a - val b) else 0), errOf (finB a && finB b)]) ∧ w = w' := by
  refine (fcmp_calls a b ha hb w).mono ?_
  rintro e w' ⟨v, rfl, hv, rfl⟩
  rcases hv with ⟨h1, h2, rfl⟩ | ⟨h | h, rfl⟩
  · rw [h1, h2]; exact ⟨rfl, rfl⟩
  · rw [h]; exact ⟨rfl, rfl⟩
  · rw [h, Bool.and_false]; exact ⟨rfl, rfl⟩
set_option maxHeartbeats 4000000 in
set_option maxRecDepth 100000 in
theorem floatOrder_walk (a b c : Nat) (w : World) (ha : a < 18446744073709551616) (hb : b < 18446744073709551616) (hc : c < 18446744073709551616) (hG : Handle w) (hT : TabAt w) :
    Calls Tryd.prog 5 #[.int .u64 a, .int .u64 b, .int .u64 c] w fun e w' => e = .returned (.bool true) ∧ Below w.heap.size w w' := by
  have ca := Lib.hid (awake5_calls w hT)
  have cab := fcmpB a b ha hb
  have cbc := fcmpB b c hb hc
  have cac := fcmpB a c ha hc
  have cba := fcmpB b a hb ha
  have fa := ffinite_calls a ha
  have fb := ffinite_calls b hb
  have fc := ffinite_calls c hc
  have na := Lib.hid (norm_calls a)
  have nb := Lib.hid (norm_calls b)
  have GN : Hid (∀ n, Handle (w.drewN n)) := fun n => hG.drewN n
  have BN : Hid (∀ n, Below w.heap.size w (w.drewN n)) := fun n => below_drewN (Below.refl _ w) n
  have hp : Hid (finB a = true → finB b = true → sgz (val b - val a) = -sgz (val a - val b) ∧ ((sgz (val a - val b) == 0) = ((normN a : Int) == (normN b : Int)))) := fun h1 h2 => order_plain a b c ha hb ((finB_iff a).1 h1) ((finB_iff b).1 h2)
  have h3 := Lib.hid (sgz_three (val a) (val b) (val c))
  have hr1 := Lib.hid (sgz_range (val a - val b))
  generalize finB a = pa at *
  generalize finB b = pb at *
  generalize finB c = pc at *
  clear ha hb hc hG hT
  by_cases hall : pa = true ∧ pb = true ∧ pc = true
  · obtain ⟨rfl, rfl, rfl⟩ := hall
    obtain ⟨e1, e2⟩ := hp.out rfl rfl
    simp only [Bool.and_self, if_true, errOf, e1] at cab cbc cac cba
    clear e1 hp
    generalize sgz (val a - val b) = x at *
    generalize sgz (val b - val c) = y at *
    generalize sgz (val a - val c) = z at *
    obtain ⟨na', hna⟩ : ∃ q, q = normN a := ⟨_, rfl⟩
    obtain ⟨nb', hnb⟩ : ∃ q, q = normN b := ⟨_, rfl⟩
    rw [← hna, ← hnb] at e2
    rw [← hna] at na
    rw [← hnb] at nb
    have cab' := Lib.hid cab
    have cbc' := Lib.hid cbc
    have cac' := Lib.hid cac
    have cba' := Lib.hid cba
    have fa' := Lib.hid fa
    have fb' := Lib.hid fb
    have fc' := Lib.hid fc
    have hx := hr1.out
    have hneg : IntKind.i64.wrap (- -x) = x := by rw [Int.neg_neg]; exact IntWalk.i64_in _ (by omega)
    obtain ⟨t1, t2⟩ := h3.out
    have ht1 : Hid ((decide (x < 0) || (decide (y < 0) || decide (0 ≤ z))) = true) := by
      show _ = true
      simpa using t1
    have ht2 : Hid ((decide (0 < x) || (decide (0 < y) || decide (z ≤ 0))) = true) := by
      show _ = true
      simpa using t2
    have e2' := Lib.hid e2
    have hxr := hr1
    clear cab cbc cac cba fa fb fc hna hnb h3 t1 t2 hx hr1 e2
    go_enter Tryd.func5, Tryd.ntmps5
    go_wp2_with fail
    refine ca.out.mono ?_
    rintro e w' ⟨rfl, n1, rfl⟩
    go_wp2_with fail
    refine (cab'.out _).mono ?_
    rintro e w' ⟨rfl, rfl⟩
    go_wp2_with fail
    refine (cbc'.out _).mono ?_
    rintro e w' ⟨rfl, rfl⟩
    go_wp2_with fail
    refine (cac'.out _).mono ?_
    rintro e w' ⟨rfl, rfl⟩
    go_wp2_with fail
    refine (cba'.out _).mono ?_
    rintro e w' ⟨rfl, rfl⟩
    go_wp2_with fail
    refine (fa'.out _).mono ?_
    rintro e w' ⟨rfl, rfl⟩
    go_wp2_with fail
    refine (fb'.out _).mono ?_
    rintro e w' ⟨rfl, rfl⟩
    go_wp2_with fail
    refine (fc'.out _).mono ?_
    rintro e w' ⟨rfl, rfl⟩
    clear ca cab' cbc' cac' cba' fa' fb' fc' GN
    have hcs : (x = -1 ∧ 0 < y) ∨ (x = -1 ∧ ¬ 0 < y ∧ z ≤ 0) ∨ (x = 0 ∧ y < 0 ∧ z ≤ 0) ∨ (x = 0 ∧ y = 0 ∧ z = 0) ∨ (x = 0 ∧ 0 < y ∧ 0 ≤ z) ∨ (x = 1 ∧ y < 0) ∨ (x = 1 ∧ ¬ y < 0 ∧ 0 ≤ z) := by
      have h1 := ht1.out
      have h2 := ht2.out
      have h3 := hxr.out
      simp at h1 h2
      omega
    clear ht1 ht2 hxr hneg
    rcases hcs with ⟨rfl, h1⟩ | ⟨rfl, h1, h2⟩ | ⟨rfl, h1, h2⟩ | ⟨rfl, rfl, rfl⟩ | ⟨rfl, h1, h2⟩ | ⟨rfl, h1⟩ | ⟨rfl, h1, h2⟩
    all_goals
      have e3 := e2'.out.symm
      try rw [show ((-1 : Int) == 0) = false from rfl] at e3
      try rw [show ((0 : Int) == 0) = true from rfl] at e3
      try rw [show ((1 : Int) == 0) = false from rfl] at e3
      clear e2'
      go_wp2_with fail
      refine (na.out _).mono ?_
      rintro e w' ⟨rfl, rfl⟩
      go_wp2_with fail
      refine (nb.out _).mono ?_
      rintro e w' ⟨rfl, rfl⟩
      go_wp2_with fail
      go_ret
      exact ⟨rfl, BN.out _⟩
  · obtain ⟨x, hx⟩ : ∃ x, x = (if (pa && pb) = true then sgz (val a - val b) else 0) := ⟨_, rfl⟩
    obtain ⟨y, hy⟩ : ∃ y, y = (if (pb && pc) = true then sgz (val b - val c) else 0) := ⟨_, rfl⟩
    obtain ⟨z, hz⟩ : ∃ z, z = (if (pa && pc) = true then sgz (val a - val c) else 0) := ⟨_, rfl⟩
    obtain ⟨u, hu⟩ : ∃ u, u = (if (pb && pa) = true then sgz (val b - val a) else 0) := ⟨_, rfl⟩
    rw [← hx] at cab
    rw [← hy] at cbc
    rw [← hz] at cac
    rw [← hu] at cba
    clear hx hy hz hu hp h3 hr1 na nb
    obtain ⟨p1, hp1⟩ : ∃ p1, p1 = (pa && pb) := ⟨_, rfl⟩
    obtain ⟨p2, hp2⟩ : ∃ p2, p2 = (pb && pc) := ⟨_, rfl⟩
    obtain ⟨p3, hp3⟩ : ∃ p3, p3 = (pa && pc) := ⟨_, rfl⟩
    obtain ⟨p4, hp4⟩ : ∃ p4, p4 = (pb && pa) := ⟨_, rfl⟩
    rw [← hp1] at cab
    rw [← hp2] at cbc
    rw [← hp3] at cac
    rw [← hp4] at cba
    have c1 := code_of p1
    have c2 := code_of p2
    have c3 := code_of p3
    obtain ⟨k1, hk1⟩ : ∃ k1 : Int, k1 = (if p1 = true then 0 else 1) := ⟨_, rfl⟩
    obtain ⟨k2, hk2⟩ : ∃ k2 : Int, k2 = (if p2 = true then 0 else 1) := ⟨_, rfl⟩
    obtain ⟨k3, hk3⟩ : ∃ k3 : Int, k3 = (if p3 = true then 0 else 1) := ⟨_, rfl⟩
    rw [← hk1] at c1
    rw [← hk2] at c2
    rw [← hk3] at c3
    have hb1 : 0 ≤ k1 ∧ k1 ≤ 1 := by rw [hk1]; split <;> omega
    have hb2 : 0 ≤ k2 ∧ k2 ≤ 1 := by rw [hk2]; split <;> omega
    have hb3 : 0 ≤ k3 ∧ k3 ≤ 1 := by rw [hk3]; split <;> omega
    have hsum : 1 ≤ k1 + k2 + k3 := by
      rw [hk1, hk2, hk3, hp1, hp2, hp3]
      cases pa <;> cases pb <;> cases pc <;> simp at hall ⊢
    obtain ⟨s1, hs1⟩ : ∃ s1, s1 = k1 + k2 := ⟨_, rfl⟩
    obtain ⟨s2, hs2⟩ : ∃ s2, s2 = s1 + k3 := ⟨_, rfl⟩
    have hw1 : k1 + k2 = s1 := hs1.symm
    have hw2 : s1 + k3 = s2 := hs2.symm
    have hw3 : decide (0 < s2) = true := by simp; omega
    have hw4 : IntKind.i64.wrap s1 = s1 := IntWalk.i64_in _ (by omega)
    have hw5 : IntKind.i64.wrap s2 = s2 := IntWalk.i64_in _ (by omega)
    have hcs : pa = false ∨ (pa = true ∧ pb = false) ∨ (pa = true ∧ pb = true ∧ pc = false) := by
      cases pa <;> cases pb <;> cases pc <;> simp at hall ⊢
    have cab' := Lib.hid cab
    have cbc' := Lib.hid cbc
    have cac' := Lib.hid cac
    have cba' := Lib.hid cba
    have c1' := Lib.hid c1
    have c2' := Lib.hid c2
    have c3' := Lib.hid c3
    have W1 := Lib.hid hw1
    have W2 := Lib.hid hw2
    have W3 := Lib.hid hw3
    have fa' := Lib.hid fa
    have fb' := Lib.hid fb
    have fc' := Lib.hid fc
    clear cab cbc cac cba c1 c2 c3 fa fb fc hall hp1 hp2 hp3 hp4 hk1 hk2 hk3 hs1 hs2 hsum hw1 hw2 hw3 hw4 hw5
    go_enter Tryd.func5, Tryd.ntmps5
    go_wp2_with fail
    refine ca.out.mono ?_
    rintro e w' ⟨rfl, n1, rfl⟩
    go_wp2_with fail
    refine (cab'.out _).mono ?_
    rintro e w' ⟨rfl, rfl⟩
    go_wp2_with fail
    refine (cbc'.out _).mono ?_
    rintro e w' ⟨rfl, rfl⟩
    go_wp2_with fail
    refine (cac'.out _).mono ?_
    rintro e w' ⟨rfl, rfl⟩
    go_wp2_with fail
    refine (cba'.out _).mono ?_
    rintro e w' ⟨rfl, rfl⟩
    go_wp2_with fail
    refine (fa'.out _).mono ?_
    rintro e w' ⟨rfl, rfl⟩
    rcases hcs with rfl | ⟨rfl, rfl⟩ | ⟨rfl, rfl, rfl⟩
    · go_wp2_with fail
      refine (c1'.out _ (GN.out _)).mono ?_
      rintro e w1 ⟨rfl, hbl⟩
      have G1 : Hid (Handle w1) := (GN.out n1).below hbl
      have B1 : Hid (Below w.heap.size w w1) := (BN.out n1).trans (by exact hbl)
      clear hbl GN BN
      go_wp2_with fail
      refine (c2'.out _ G1.out).mono ?_
      rintro e w2 ⟨rfl, hbl⟩
      have G2 : Hid (Handle w2) := G1.out.below hbl
      have B2 : Hid (Below w.heap.size w w2) := below_nx B1.out hbl
      have hw1 := W1.out
      clear hbl G1 B1
      go_wp2_with fail
      refine (c3'.out _ G2.out).mono ?_
      rintro e w3 ⟨rfl, hbl⟩
      have B3 : Hid (Below w.heap.size w w3) := below_nx B2.out hbl
      have hw2 := W2.out
      have hw3 := W3.out
      clear hbl G2 B2
      go_wp2_with fail
      go_ret
      exact ⟨rfl, B3.out⟩
    · go_wp2_with fail
      refine (fb'.out _).mono ?_
      rintro e w' ⟨rfl, rfl⟩
      go_wp2_with fail
      refine (c1'.out _ (GN.out _)).mono ?_
      rintro e w1 ⟨rfl, hbl⟩
      have G1 : Hid (Handle w1) := (GN.out n1).below hbl
      have B1 : Hid (Below w.heap.size w w1) := (BN.out n1).trans (by exact hbl)
      clear hbl GN BN
      go_wp2_with fail
      refine (c2'.out _ G1.out).mono ?_
      rintro e w2 ⟨rfl, hbl⟩
      have G2 : Hid (Handle w2) := G1.out.below hbl
      have B2 : Hid (Below w.heap.size w w2) := below_nx B1.out hbl
      have hw1 := W1.out
      clear hbl G1 B1
      go_wp2_with fail
      refine (c3'.out _ G2.out).mono ?_
      rintro e w3 ⟨rfl, hbl⟩
      have B3 : Hid (Below w.heap.size w w3) := below_nx B2.out hbl
      have hw2 := W2.out
      have hw3 := W3.out
      clear hbl G2 B2
      go_wp2_with fail
      go_ret
      exact ⟨rfl, B3.out⟩
    · go_wp2_with fail
      refine (fb'.out _).mono ?_
      rintro e w' ⟨rfl, rfl⟩
      go_wp2_with fail
      refine (fc'.out _).mono ?_
      rintro e w' ⟨rfl, rfl⟩
      go_wp2_with fail
      refine (c1'.out _ (GN.out _)).mono ?_
      rintro e w1 ⟨rfl, hbl⟩
      have G1 : Hid (Handle w1) := (GN.out n1).below hbl
      have B1 : Hid (Below w.heap.size w w1) := (BN.out n1).trans (by exact hbl)
      clear hbl GN BN
      go_wp2_with fail
      refine (c2'.out _ G1.out).mono ?_
      rintro e w2 ⟨rfl, hbl⟩
      have G2 : Hid (Handle w2) := G1.out.below hbl
      have B2 : Hid (Below w.heap.size w w2) := below_nx B1.out hbl
      have hw1 := W1.out
      clear hbl G1 B1
      go_wp2_with fail
      refine (c3'.out _ G2.out).mono ?_
      rintro e w3 ⟨rfl, hbl⟩
      have B3 : Hid (Below w.heap.size w w3) := below_nx B2.out hbl
      have hw2 := W2.out
      have hw3 := W3.out
      clear hbl G2 B2
      go_wp2_with fail
      go_ret
      exact ⟨rfl, B3.out⟩
end Go.Proofs.YtmkpeihcchdjcaaDoor
