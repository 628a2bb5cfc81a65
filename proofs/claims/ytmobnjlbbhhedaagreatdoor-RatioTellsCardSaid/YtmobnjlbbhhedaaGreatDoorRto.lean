/- The walks of bits.Len64 and nat.Len. -/
import Derived.Test.YtmobnjlbbhhedaaGreatDoorNatE
import Derived.Test.YtmobnjlbbhhedaaGreatDoorLenA
import Derived.Test.YtmobnjlbbhhedaaGreatDoorWhl
import Derived.Test.YtmobnjlbbhhedaaGreatDoorDivH
set_option linter.unusedVariables false
set_option linter.unusedSimpArgs false
namespace Go.Proofs.YtmobnjlbbhhedaaGreatDoor
open Go.RowKit

/-- A number's length in bits, by its limbs. -/
theorem isLen_limbs {X n k : Nat} (h : IsLen B64 X (n + 1)) (hk : IsLen 2 (dig B64 X n) k) : IsLen 2 X (64 * n + k) := by
  have hp := Nat.pow_pos (n := n) B64_pos
  have hdiv : X / B64 ^ n = dig B64 X n := by
    have h1 : X / B64 ^ n < B64 := by
      rw [Nat.div_lt_iff_lt_mul hp, Nat.mul_comm, ← Nat.pow_succ]; exact h.1
    unfold dig
    rw [Nat.mod_eq_of_lt h1]
  have e : ∀ j, 2 ^ (64 * n + j) = 2 ^ j * B64 ^ n := fun j => two_pow_split n j
  have htop := h.top_ne B64_pos
  refine ⟨?_, fun m hm => ?_⟩
  · rw [e, ← Nat.div_lt_iff_lt_mul hp, hdiv]
    exact hk.1
  · apply Classical.byContradiction
    intro hlt
    by_cases hm64 : 64 * n ≤ m
    · obtain ⟨j, rfl⟩ : ∃ j, m = 64 * n + j := ⟨m - 64 * n, by omega⟩
      rw [e, ← Nat.div_lt_iff_lt_mul hp, hdiv] at hm
      have := hk.2 j hm
      omega
    · have h2 : X < 2 ^ (64 * n + 0) := Nat.lt_of_lt_of_le hm (Nat.pow_le_pow_right (by omega) (by omega))
      rw [e, Nat.pow_zero, Nat.one_mul] at h2
      exact htop (dig_ge B64_pos h2 (Nat.le_refl _))

theorem len2_le {X n l : Nat} (h : IsLen 2 X l) (hx : X < B64 ^ n) : l ≤ 64 * n := by
  refine h.2 _ ?_
  rwa [B64_two, ← Nat.pow_mul] at hx
theorem two_pow_lt {l n : Nat} (h : l < 64 * n) : 2 ^ l < B64 ^ n := by
  rw [B64_two, ← Nat.pow_mul]
  exact Nat.pow_lt_pow_right (by omega) h

set_option maxHeartbeats 1000000 in
set_option maxRecDepth 100000 in
theorem natLen_calls (v : Value) (X m : Nat) (w : World) (h : Num .u64 B64 w v X m) (hm : m ≤ 20000) :
    Calls Tryz.prog 42 #[v] w fun e w' => ∃ n : Nat, e = .returned (.int .i64 n) ∧ IsLen 2 X n ∧ w = w' := by
  have H := Lib.hid h
  clear h
  go_enter Tryz.func42, Tryz.ntmps42
  go_wp2_with fail
  refine (natPlain_calls v m X w H.out).mono ?_
  rintro e w' ⟨A, a, rfl, rfl, ha, HA, hla⟩
  have HA' := Lib.hid HA
  have hl := Lib.hid hla
  clear HA hla H
  cases a with
  | zero =>
    have hX : X = 0 := by have := hl.out.1; simpa using this
    have hX' := Lib.hid hX
    clear hX
    go_wp2_with fail
    go_ret
    exact ⟨0, rfl, by rw [hX'.out]; exact IsLen.zero 2, rfl⟩
  | succ a =>
    obtain ⟨ad, rfl, hcell⟩ := HA'.out.cell (show a < a + 1 by omega)
    go_wp2_with fail
    refine (len64_calls (dig B64 X a) w (dig_lt B64_pos X a)).mono ?_
    rintro e w' ⟨k, rfl, hk, hk64, rfl⟩
    have hk' := Lib.hid (isLen_limbs hl.out hk)
    clear hk
    go_wp2_with fail
    go_ret
    exact ⟨64 * a + k, by go_num, hk'.out, rfl⟩
end Go.Proofs.YtmobnjlbbhhedaaGreatDoor

set_option linter.unusedVariables false
set_option linter.unusedSimpArgs false
namespace Go.Proofs.YtmobnjlbbhhedaaGreatDoor
open Go.RowKit

theorem below_next' {w w1 w2 : World} (h : Below w.heap.size w w1) (k : Below w1.heap.size w1 w2) : Below w.heap.size w w2 := h.trans (k.mono h.size)
/-- Is a number plain: nothing at the top, and 0 not below 0. -/
def IsPlain (s : Bool) (X n : Nat) : Prop := IsLen B64 X n ∧ (s = true → 0 < X)
theorem cells2 {w : World} {s : Bool} {A : Option Addr} {n c : Nat} {t : TypeId} : (w.alloc (.cells #[.bool s, .slice A n c] t)).cell? ⟨w.heap.size, 0, none⟩ = some (.bool s) ∧ (w.alloc (.cells #[.bool s, .slice A n c] t)).cell? ⟨w.heap.size, 1, none⟩ = some (.slice A n c) := by
  obtain ⟨a0, a1, _, _⟩ := kept_cells (alloc_at (w := w) (o := .cells #[.bool s, .slice A n c] t) rfl)
  exact ⟨a0, a1⟩
theorem rplain_calls (s : Bool) (A : Option Addr) (n c X : Nat) (w : World) (h : Num .u64 B64 w (.slice A n c) X n) :
    Calls Tryz.prog 41 #[.agg #[.bool s, .slice A n c]] w fun e w' => ∃ b, e = .returned (.bool b) ∧ (b = true ↔ IsPlain s X n) ∧ Below w.heap.size w w' := by
  have H := Lib.hid h
  clear h
  go_enter Tryz.func41, Tryz.ntmps41
  go_wp2_with fail
  have B0 : Below w.heap.size w (w.alloc (.cells #[.bool s, .slice A n c] 24)) := (Below.refl _ _).alloc (Nat.le_refl _) _
  obtain ⟨d0, d1⟩ := cells2 (w := w) (s := s) (A := A) (n := n) (c := c) (t := 24)
  refine (wplain_calls s A c X n _ (H.out.below B0)).mono ?_
  rintro e w1 ⟨m, rfl, hb, hm, hN, hl⟩
  obtain ⟨s2, hs2⟩ : ∃ s2, s2 = (s && decide (0 < m)) := ⟨_, rfl⟩
  rw [← hs2]
  have hm0 : 0 < m ↔ 0 < X := ⟨fun h0 => by
    rcases Nat.eq_zero_or_pos X with hx | hx
    · subst hx
      have := hl.uniq (IsLen.zero _)
      omega
    · exact hx, fun h0 => hl.pos h0⟩
  have hfin : Hid (∀ b : Bool, (b = true ↔ s = s2 ∧ n = m) → (b = true ↔ IsPlain s X n)) := by
    intro b hb
    rw [hb]
    unfold IsPlain
    constructor
    · rintro ⟨h1, rfl⟩
      refine ⟨hl, fun h2 => hm0.1 ?_⟩
      rw [h2, hs2, h2] at h1
      simpa using h1.symm
    · rintro ⟨h1, h2⟩
      refine ⟨?_, h1.uniq hl⟩
      rw [hs2]
      cases s with
      | false => rfl
      | true => simp [hm0.2 (h2 rfl)]
  have Ba : ∀ o, Below w1.heap.size w1 (w1.alloc o) := fun o => (Below.refl _ _).alloc (Nat.le_refl _) _
  have c0 : ∀ o, (w1.alloc o).cell? ⟨w.heap.size, 0, none⟩ = some (.bool s) := fun o => cell_below (Ba o) (cell_below hb d0)
  have c1 : ∀ o, (w1.alloc o).cell? ⟨w.heap.size, 1, none⟩ = some (.slice A n c) := fun o => cell_below (Ba o) (cell_below hb d1)
  obtain ⟨f0, f1⟩ := cells2 (w := w1) (s := s2) (A := A) (n := m) (c := m) (t := 24)
  have BE : Hid (∀ o, Below w.heap.size w (w1.alloc o)) := fun o => below_next' (below_next' B0 hb) (Ba o)
  clear B0 hb hN hl hs2 hm0 Ba d0 d1
  by_cases h1 : s = s2
  · by_cases h2 : n = m
    · have e1 : (s == s2) = true := by simp [h1]
      have e2 : ((n : Int) == (m : Int)) = true := by simp [h2]
      have hb := Lib.hid (hfin.out true (by simp [h1, h2]))
      clear h1 h2
      go_wp2_with fail
      go_ret
      exact ⟨true, rfl, by simpa using hb.out, BE.out _⟩
    · have e1 : (s == s2) = true := by simp [h1]
      have e2 : ((n : Int) == (m : Int)) = false := by simp; omega
      have hb := Lib.hid (hfin.out false (by simp [h2]))
      clear h1 h2
      go_wp2_with fail
      go_ret
      exact ⟨false, rfl, by simpa using hb.out, BE.out _⟩
  · have e1 : (s == s2) = false := by simp [h1]
    have hb := Lib.hid (hfin.out false (by simp [h1]))
    clear h1
    go_wp2_with fail
    go_ret
    exact ⟨false, rfl, by simpa using hb.out, BE.out _⟩

theorem kept4 {w : World} {g : Nat} {x0 x1 x2 x3 : Value} {t : TypeId} (h : w.heap[g]? = some (.cells #[x0, x1, x2, x3] t (0, 0))) :
    (w.cell? ⟨g, 0, none⟩ = some x0 ∧ w.cell? ⟨g, 1, none⟩ = some x1 ∧ w.cell? ⟨g, 2, none⟩ = some x2 ∧ w.cell? ⟨g, 3, none⟩ = some x3) ∧ ∀ i, w.frozen? ⟨g, i, none⟩ = false := by
  refine ⟨⟨?_, ?_, ?_, ?_⟩, fun i => ?_⟩
  · simp [World.cell?, h]
  · simp [World.cell?, h]
  · simp [World.cell?, h]
  · simp [World.cell?, h]
  · simp [World.frozen?, h]
theorem cells4 {w : World} {s s' : Bool} {A A' : Option Addr} {n c n' c' : Nat} {t : TypeId} : (w.alloc (.cells #[.bool s, .slice A n c, .bool s', .slice A' n' c'] t)).cell? ⟨w.heap.size, 0, none⟩ = some (.bool s) ∧ (w.alloc (.cells #[.bool s, .slice A n c, .bool s', .slice A' n' c'] t)).cell? ⟨w.heap.size, 1, none⟩ = some (.slice A n c) ∧
    (w.alloc (.cells #[.bool s, .slice A n c, .bool s', .slice A' n' c'] t)).cell? ⟨w.heap.size, 2, none⟩ = some (.bool s') ∧ (w.alloc (.cells #[.bool s, .slice A n c, .bool s', .slice A' n' c'] t)).cell? ⟨w.heap.size, 3, none⟩ = some (.slice A' n' c') :=
  (kept4 (alloc_at (w := w) (o := .cells #[.bool s, .slice A n c, .bool s', .slice A' n' c'] t) rfl)).1
theorem gcd_one_len {g l : Nat} (h : IsLen 2 g l) : l = 1 ↔ g = 1 := by
  constructor
  · rintro rfl
    have h1 := h.1
    have h2 := h.2 0
    simp at h1 h2
    omega
  · rintro rfl
    exact h.uniq ⟨by decide, fun m hm => by
      rcases m with _ | m
      · simp at hm
      · omega⟩
set_option maxHeartbeats 2000000 in
set_option maxRecDepth 100000 in
theorem right_calls (s : Bool) (A : Option Addr) (n c X : Nat) (s' : Bool) (A' : Option Addr) (n' c' X' : Nat) (w : World) (h : Num .u64 B64 w (.slice A n c) X n) (k : Num .u64 B64 w (.slice A' n' c') X' n') (hn : n ≤ 100) (hn' : n' ≤ 100) (hT : TabAt w) :
    Calls Tryz.prog 19 #[.agg #[.bool s, .slice A n c, .bool s', .slice A' n' c']] w fun e w' => ∃ b, e = .returned (.bool b) ∧ (b = true ↔ IsPlain s X n ∧ IsPlain s' X' n' ∧ s' = false ∧ 0 < X' ∧ Nat.gcd X X' = 1) ∧ Below w.heap.size w w' := by
  have H := Lib.hid h
  have K := Lib.hid k
  have T := Lib.hid hT
  clear h k hT
  go_enter Tryz.func19, Tryz.ntmps19
  go_wp2_with fail
  have B0 : Below w.heap.size w (w.alloc (.cells #[.bool s, .slice A n c, .bool s', .slice A' n' c'] 26)) := (Below.refl _ _).alloc (Nat.le_refl _) _
  obtain ⟨d0, d1, d2, d3⟩ := cells4 (w := w) (s := s) (A := A) (n := n) (c := c) (s' := s') (A' := A') (n' := n') (c' := c') (t := 26)
  refine (rplain_calls s A n c X _ (H.out.below B0)).mono ?_
  rintro e w1 ⟨b1, rfl, hb1, hb⟩
  have B1 := Lib.hid (below_next' B0 hb)
  replace d0 := cell_below hb d0
  replace d1 := cell_below hb d1
  replace d2 := cell_below hb d2
  replace d3 := cell_below hb d3
  have P1 := Lib.hid hb1
  clear hb hb1 B0
  cases b1 with
  | false =>
    go_wp2_with fail
    go_ret
    exact ⟨false, rfl, by simp; intro h; exact absurd (P1.out.2 h) (by simp), B1.out⟩
  | true =>
    go_wp2_with fail
    refine (rplain_calls s' A' n' c' X' _ (K.out.below B1.out)).mono ?_
    rintro e w2 ⟨b2, rfl, hb2, hb⟩
    have B2 := Lib.hid (below_next' B1.out hb)
    replace d0 := cell_below hb d0
    replace d1 := cell_below hb d1
    replace d2 := cell_below hb d2
    replace d3 := cell_below hb d3
    have P2 := Lib.hid hb2
    clear hb hb2 B1
    cases b2 with
    | false =>
      go_wp2_with fail
      go_ret
      exact ⟨false, rfl, by simp; intro _ h; exact absurd (P2.out.2 h) (by simp), B2.out⟩
    | true =>
      go_wp2_with fail
      refine (signw_calls _ (sgn s' X') n' _ (AInt.mk (K.out.below B2.out))).mono ?_
      rintro e w3 ⟨rfl, hb⟩
      have B3 := Lib.hid (below_next' B2.out hb)
      replace d0 := cell_below hb d0
      replace d1 := cell_below hb d1
      replace d2 := cell_below hb d2
      replace d3 := cell_below hb d3
      clear hb B2
      by_cases hs : s' = false ∧ 0 < X'
      · have hsg : (sgn s' X').sign = 1 := by
          rw [hs.1]; exact Int.sign_eq_one_of_pos (by simp [sgn]; omega)
        rw [hsg]
        have hs2 := Lib.hid hs
        clear hs hsg
        go_wp2_with fail
        refine (gcd_calls _ _ X X' n n' _ (H.out.below B3.out) (K.out.below B3.out) (by omega) (by omega) (T.out.below B3.out)).mono ?_
        rintro e w4 ⟨v1, r, rfl, hg, lg, hb⟩
        have B4 := Lib.hid (below_next' B3.out hb)
        have hr : r ≤ n + n' + 1 := by
          refine lg.le ?_
          have h1 := H.out.lt
          have h2 := K.out.lt
          have h3 := Nat.gcd_le_right X hs2.out.2
          have h4 : B64 ^ n' ≤ B64 ^ (n + n' + 1) := Nat.pow_le_pow_right B64_pos (by omega)
          omega
        have HG := Lib.hid hg
        clear hb hg lg B3 d0 d1 d2 d3
        go_wp2_with fail
        refine (natLen_calls _ _ r _ HG.out (by omega)).mono ?_
        rintro e w' ⟨l, rfl, hl, rfl⟩
        have hl1 := gcd_one_len hl
        by_cases h1 : l = 1
        · have e1 : ((l : Int) == 1) = true := by simp [h1]
          have hg1 := Lib.hid (hl1.1 h1)
          clear hl hl1 h1
          go_wp2_with fail
          go_ret
          exact ⟨true, rfl, by simp; exact ⟨by simpa using P1.out, by simpa using P2.out, hs2.out.1, hs2.out.2, hg1.out⟩, B4.out⟩
        · have e1 : ((l : Int) == 1) = false := by simp; omega
          have hg1 : Hid (¬ Nat.gcd X X' = 1) := fun h => h1 (hl1.2 h)
          clear hl hl1 h1
          go_wp2_with fail
          go_ret
          exact ⟨false, rfl, by simp; intro _ _ _ _ h; exact hg1.out h, B4.out⟩
      · obtain ⟨z, hz⟩ : ∃ z, z = (sgn s' X').sign := ⟨_, rfl⟩
        have hsg : z < 1 := by
          rw [hz]
          have : sgn s' X' ≤ 0 := by
            cases s' with
            | true => simp [sgn]
            | false =>
              have : ¬ 0 < X' := fun h => hs ⟨rfl, h⟩
              simp [sgn]; omega
          have := (sign_nonpos' (sgn s' X')).2 this
          omega
        rw [← hz]
        have hs2 := Lib.hid hs
        clear hs hz
        go_wp2_with fail
        go_ret
        exact ⟨false, rfl, by simp; intro _ _ h1 h2; exact absurd ⟨h1, h2⟩ hs2.out, B3.out⟩
theorem sign_three (z : Int) : z.sign = -1 ∨ z.sign = 0 ∨ z.sign = 1 := by
  rcases Int.lt_trichotomy z 0 with h | h | h
  · exact .inl (Int.sign_eq_neg_one_of_neg h)
  · subst h; exact .inr (.inl rfl)
  · exact .inr (.inr (Int.sign_eq_one_of_pos h))
theorem wrap_sign2 (y z : Int) : IntKind.i64.wrap (y.sign * z.sign) = y.sign * z.sign := by
  rcases sign_three y with h | h | h <;> rcases sign_three z with k | k | k <;> rw [h, k] <;> decide
theorem wrap_sign3 (x y z : Int) : IntKind.i64.wrap (x.sign * y.sign * z.sign) = x.sign * y.sign * z.sign := by
  rcases sign_three x with g | g | g <;> rcases sign_three y with h | h | h <;> rcases sign_three z with k | k | k <;> rw [g, h, k] <;> decide
set_option maxHeartbeats 4000000 in
set_option maxRecDepth 100000 in
theorem rcmp_calls (s : Bool) (A : Option Addr) (n c X : Nat) (s' : Bool) (A' : Option Addr) (n' c' X' : Nat) (t : Bool) (C : Option Addr) (m d U : Nat) (t' : Bool) (C' : Option Addr) (m' d' U' : Nat) (w : World) (h : Num .u64 B64 w (.slice A n c) X n) (k : Num .u64 B64 w (.slice A' n' c') X' n')
    (h2 : Num .u64 B64 w (.slice C m d) U m) (k2 : Num .u64 B64 w (.slice C' m' d') U' m') (b1 : n ≤ 100) (b2 : n' ≤ 100) (b3 : m ≤ 100) (b4 : m' ≤ 100) :
    Calls Tryz.prog 9 #[.agg #[.bool s, .slice A n c, .bool s', .slice A' n' c'], .agg #[.bool t, .slice C m d, .bool t', .slice C' m' d']] w fun e w' =>
      (0 < X' ∧ 0 < U' → e = .returned (.tuple #[.int .i64 (cmpQ (sgn s X) (sgn s' X') (sgn t U) (sgn t' U')), .nilIface])) ∧ (¬ (0 < X' ∧ 0 < U') → e = .returned (.tuple #[.int .i64 0, errN 6])) ∧ Below w.heap.size w w' := by
  have H := Lib.hid h
  have K := Lib.hid k
  have H2 := Lib.hid h2
  have K2 := Lib.hid k2
  clear h k h2 k2
  obtain ⟨x, hx⟩ : ∃ x, x = sgn s X := ⟨_, rfl⟩
  obtain ⟨y, hy⟩ : ∃ y, y = sgn s' X' := ⟨_, rfl⟩
  obtain ⟨u, hu⟩ : ∃ u, u = sgn t U := ⟨_, rfl⟩
  obtain ⟨v, hv⟩ : ∃ v, v = sgn t' U' := ⟨_, rfl⟩
  have hy0 : 0 < X' ↔ y ≠ 0 := by rw [hy]; cases s' <;> simp [sgn] <;> omega
  have hv0 : 0 < U' ↔ v ≠ 0 := by rw [hv]; cases t' <;> simp [sgn] <;> omega
  rw [← hx, ← hy, ← hu, ← hv, hy0, hv0]
  have AX : Hid (∀ w', Below w.heap.size w w' → AInt w' (.agg #[.bool s, .slice A n c]) x 100) := fun w' hb => by rw [hx]; exact (AInt.mk (H.out.below hb)).le b1
  have AY : Hid (∀ w', Below w.heap.size w w' → AInt w' (.agg #[.bool s', .slice A' n' c']) y 100) := fun w' hb => by rw [hy]; exact (AInt.mk (K.out.below hb)).le b2
  have AU : Hid (∀ w', Below w.heap.size w w' → AInt w' (.agg #[.bool t, .slice C m d]) u 100) := fun w' hb => by rw [hu]; exact (AInt.mk (H2.out.below hb)).le b3
  have AV : Hid (∀ w', Below w.heap.size w w' → AInt w' (.agg #[.bool t', .slice C' m' d']) v 100) := fun w' hb => by rw [hv]; exact (AInt.mk (K2.out.below hb)).le b4
  clear hx hy hu hv hy0 hv0 H K H2 K2
  have B0 : Hid (∀ o o', Below w.heap.size w ((w.alloc o).alloc o')) := fun o o' => ((Below.refl _ w).alloc (Nat.le_refl _) _).alloc (by simp) _
  have CA : Hid (∀ ty o, (((w.alloc (.cells #[.bool s, .slice A n c, .bool s', .slice A' n' c'] ty)).alloc o).heap[w.heap.size]? = some (.cells #[.bool s, .slice A n c, .bool s', .slice A' n' c'] ty (0, 0)))) := fun ty o => (((Below.refl (w.heap.size + 1) _).alloc (by simp) _).block _ (by omega)).trans (alloc_at rfl)
  have CB : Hid (∀ o ty, (((w.alloc o).alloc (.cells #[.bool t, .slice C m d, .bool t', .slice C' m' d'] ty)).heap[w.heap.size + 1]? = some (.cells #[.bool t, .slice C m d, .bool t', .slice C' m' d'] ty (0, 0)))) := fun o ty => alloc_at (by simp)
  go_enter Tryz.func9, Tryz.ntmps9
  go_wp2_with fail
  have hblkA := CA.out 26 (.cells #[.bool t, .slice C m d, .bool t', .slice C' m' d'] 26)
  have hblkB := CB.out (.cells #[.bool s, .slice A n c, .bool s', .slice A' n' c'] 26) 26
  have EB := B0.out (.cells #[.bool s, .slice A n c, .bool s', .slice A' n' c'] 26) (.cells #[.bool t, .slice C m d, .bool t', .slice C' m' d'] 26)
  generalize ((w.alloc (.cells #[.bool s, .slice A n c, .bool s', .slice A' n' c'] 26)).alloc (.cells #[.bool t, .slice C m d, .bool t', .slice C' m' d'] 26)) = W at *
  obtain ⟨⟨a0, a1, a2, a3⟩, _⟩ := kept4 hblkA
  obtain ⟨⟨b0, b1', b2', b3'⟩, _⟩ := kept4 hblkB
  obtain ⟨sg, hsg⟩ : ∃ sg, sg = y.sign * v.sign := ⟨_, rfl⟩
  have hws := wrap_sign2 y v
  have hsgH := Lib.hid hsg
  clear CA CB B0 hblkA hblkB hsg
  refine wp_region_gives0 7 [IsV (.pointer (some ⟨w.heap.size, 2, none⟩)), IsV (.agg #[.bool s', .slice A' n' c']), IsV (.int .i64 y.sign), IsV (.pointer (some ⟨w.heap.size + 1, 2, none⟩)), IsV (.agg #[.bool t', .slice C' m' d']), IsV (.int .i64 v.sign), IsV (.int .i64 sg)]
    (by kernel_rfl) (by kernel_rfl) rfl ⟨pers_isV _, pers_isV _, pers_isV _, pers_isV _, pers_isV _, pers_isV _, pers_isV _, trivial⟩ ?_ ?_
  · simp only [List.take_succ_cons, List.take_zero, Obl0, putAll, Act.put, List.setIfInBounds_toArray, List.set_cons_zero, List.set_cons_succ, Nat.reduceAdd]
    refine ⟨?_, ?_, ?_, ?_, ?_, ?_, ?_, trivial⟩
    all_goals
      intro xs w' hE hf K' hK'
      simp only [factsOf, Region.binds, List.getElem?_cons_zero, List.getElem?_cons_succ, IsV, forall_const, true_and, and_true] at hf
    · go_simp
      exact hK'.out _ _ rfl (Ext.refl _)
    · have c0 := cell_below hE a2
      have c1 := cell_below hE a3
      simp only [hf] at hK' ⊢
      go_simp
      exact hK'.out _ _ rfl (Ext.refl _)
    · simp only [hf] at hK' ⊢
      go_simp
      refine (signw_calls _ y 100 _ (AY.out _ (EB.trans (hE.mono EB.size)))).mono ?_
      rintro e w1 ⟨rfl, hb⟩
      exact hK'.out _ _ rfl hb
    · go_simp
      exact hK'.out _ _ rfl (Ext.refl _)
    · have c0 := cell_below hE b2'
      have c1 := cell_below hE b3'
      simp only [hf] at hK' ⊢
      go_simp
      exact hK'.out _ _ rfl (Ext.refl _)
    · simp only [hf] at hK' ⊢
      go_simp
      refine (signw_calls _ v 100 _ (AV.out _ (EB.trans (hE.mono EB.size)))).mono ?_
      rintro e w1 ⟨rfl, hb⟩
      exact hK'.out _ _ rfl hb
    · simp only [hf] at hK' ⊢
      go_simp
      exact hK'.out _ _ (congrArg (Value.int .i64) hsgH.out.symm) (Ext.refl _)
  simp only [List.drop_succ_cons, List.drop_zero, List.take_succ_cons, List.take_zero, putAll, Act.put, List.setIfInBounds_toArray, List.set_cons_zero, List.set_cons_succ, Nat.reduceAdd]
  intro xs w1 hE hf
  simp only [factsAll, IsV, Nat.reduceAdd] at hf
  obtain ⟨e0, e1, e2, e3, e4, e5, e6, _⟩ := hf
  simp only [e0, e1, e2, e3, e4, e5, e6]
  have B1 := Lib.hid (below_next' EB hE)
  replace a0 := cell_below hE a0
  replace a1 := cell_below hE a1
  replace a2 := cell_below hE a2
  replace a3 := cell_below hE a3
  replace b0 := cell_below hE b0
  replace b1' := cell_below hE b1'
  replace b2' := cell_below hE b2'
  replace b3' := cell_below hE b3'
  clear e0 e1 e2 e3 e4 e5 e6 hE EB hws
  by_cases hz : sg = 0
  · have hzz : Hid (¬ (y ≠ 0 ∧ v ≠ 0)) := by
      rintro ⟨h1, h2⟩
      have := hsgH.out
      rw [hz] at this
      rcases Int.mul_eq_zero.1 this.symm with h | h
      · exact h1 (Int.sign_eq_zero_iff_zero.1 h)
      · exact h2 (Int.sign_eq_zero_iff_zero.1 h)
    subst hz
    go_wp2_with fail
    go_ret2
    exact ⟨fun h => absurd h hzz.out, fun _ => rfl, B1.out⟩
  · have hzz : Hid (y ≠ 0 ∧ v ≠ 0) := by
      have := hsgH.out
      constructor
      · rintro rfl
        simp at this
        exact hz this
      · rintro rfl
        simp at this
        exact hz this
    have hzb : (sg == 0) = false := by simp [hz]
    clear hz
    go_wp2_with fail
    refine (mulw_calls _ _ x v 100 100 _ (AX.out _ B1.out) (AV.out _ B1.out) (by omega)).mono ?_
    rintro e w2 ⟨p1, rfl, hP1, hb⟩
    obtain ⟨ps, pA, pm, rfl⟩ := hP1.form
    have HP1 := Lib.hid hP1
    have B2 := Lib.hid (below_next' B1.out hb)
    have Ba : ∀ o, Below w2.heap.size w2 (w2.alloc o) := fun o => (Below.refl _ _).alloc (Nat.le_refl _) _
    have a2' : ∀ o, (w2.alloc o).cell? ⟨w.heap.size, 2, none⟩ = some (.bool s') := fun o => cell_below (Ba o) (cell_below hb a2)
    have a3' : ∀ o, (w2.alloc o).cell? ⟨w.heap.size, 3, none⟩ = some (.slice A' n' c') := fun o => cell_below (Ba o) (cell_below hb a3)
    have c0' : ∀ o, (w2.alloc o).cell? ⟨w.heap.size + 1, 0, none⟩ = some (.bool t) := fun o => cell_below (Ba o) (cell_below hb b0)
    have c1' : ∀ o, (w2.alloc o).cell? ⟨w.heap.size + 1, 1, none⟩ = some (.slice C m d) := fun o => cell_below (Ba o) (cell_below hb b1')
    have p0 : Hid (∀ ty, (w2.alloc (.cells #[.bool ps, .slice pA pm pm] ty)).cell? ⟨w2.heap.size, 0, none⟩ = some (.bool ps) ∧ (w2.alloc (.cells #[.bool ps, .slice pA pm pm] ty)).cell? ⟨w2.heap.size, 1, none⟩ = some (.slice pA pm pm)) := fun ty => cells2
    have BaH := Lib.hid Ba
    clear hb hP1 B1 a0 a1 a2 a3 b0 b1' b2' b3' Ba
    go_wp2_with fail
    refine (mulw_calls _ _ u y 100 100 _ (AU.out _ (below_next' B2.out (BaH.out _))) (AY.out _ (below_next' B2.out (BaH.out _))) (by omega)).mono ?_
    rintro e w3 ⟨q1, rfl, hQ1, hb⟩
    obtain ⟨qs, qA, qm, rfl⟩ := hQ1.form
    have HQ1 := Lib.hid hQ1
    have hb2 : Below w2.heap.size w2 w3 := (BaH.out _).trans (hb.mono (by simp))
    have B3 := Lib.hid (below_next' B2.out hb2)
    replace HP1 := Lib.hid (HP1.out.below hb2)
    have Bb : ∀ o, Below w3.heap.size w3 (w3.alloc o) := fun o => (Below.refl _ _).alloc (Nat.le_refl _) _
    have r0 : ∀ o, (w3.alloc o).cell? ⟨w2.heap.size, 0, none⟩ = some (.bool ps) := fun o => cell_below (Bb o) (cell_below hb (p0.out _).1)
    have r1 : ∀ o, (w3.alloc o).cell? ⟨w2.heap.size, 1, none⟩ = some (.slice pA pm pm) := fun o => cell_below (Bb o) (cell_below hb (p0.out _).2)
    obtain ⟨k0, k1⟩ := cells2 (w := w3) (s := qs) (A := qA) (n := qm) (c := qm) (t := 24)
    have BbH := Lib.hid Bb
    obtain ⟨zc, hzc⟩ : ∃ zc, zc = (x * v - u * y).sign := ⟨_, rfl⟩
    have cc := Lib.hid (fun w h k => cmpw_calls (.agg #[.bool ps, .slice pA pm pm]) (.agg #[.bool qs, .slice qA qm qm]) (x * v) (u * y) (100 + 100) (100 + 100) w h k (by omega) (by omega))
    rw [← hzc] at cc
    have hq : Hid (sg * zc = cmpQ x y u v) := by
      show _ = _
      rw [hsgH.out, hzc]
      rfl
    have hw3 : IntKind.i64.wrap (sg * zc) = sg * zc := by
      rw [hsgH.out, hzc]; exact wrap_sign3 _ _ _
    clear hb hb2 hQ1 B2 a2' a3' c0' c1' p0 BaH Bb hzc
    go_wp2_with fail
    refine (cc.out _ (HP1.out.below (BbH.out _)).toA (HQ1.out.below (BbH.out _)).toA).mono ?_
    rintro e w4 ⟨rfl, hb⟩
    have B4 := Lib.hid (below_next' B3.out ((BbH.out _).trans (hb.mono (by simp))))
    clear hb B3 BbH r0 r1 k0 k1
    go_wp2_with fail
    go_ret2
    exact ⟨fun _ => by rw [← hq.out]; rfl, fun h => absurd hzz.out h, B4.out⟩
end Go.Proofs.YtmobnjlbbhhedaaGreatDoor

set_option linter.unusedVariables false
set_option linter.unusedSimpArgs false
namespace Go.Proofs.YtmobnjlbbhhedaaGreatDoor
open Go.RowKit

theorem put4 {w : World} {g : Nat} {x0 x1 x2 x3 : Value} {t : TypeId} {fr : Nat × Nat} (h : w.heap[g]? = some (.cells #[x0, x1, x2, x3] t fr)) (u0 u1 u2 u3 : Value) :
    ((((w.setCell ⟨g, 0, none⟩ u0).setCell ⟨g, 1, none⟩ u1).setCell ⟨g, 2, none⟩ u2).setCell ⟨g, 3, none⟩ u3).heap[g]? = some (.cells #[u0, u1, u2, u3] t fr) := by
  rw [heap_setCell (heap_setCell (heap_setCell (heap_setCell h u0) u1) u2) u3]
  rfl
theorem NoInt.four (b0 : Bool) (A0 : Option Addr) (m0 c0 : Nat) (b1 : Bool) (A1 : Option Addr) (m1 c1 : Nat) : NoInt #[.bool b0, .slice A0 m0 c0, .bool b1, .slice A1 m1 c1] := by
  intro i u h k z
  match i, h with
  | 0, h => simp at h; subst h; simp
  | 1, h => simp at h; subst h; simp
  | 2, h => simp at h; subst h; simp
  | 3, h => simp at h; subst h; simp
  | i + 4, h => simp at h
theorem Num.put4 {k : IntKind} {B X n g : Nat} {w : World} {v : Value} {b0 b0' b1 b1' : Bool} {A0 A0' A1 A1' : Option Addr} {m0 c0 m0' c0' m1 c1 m1' c1' : Nat} {t : TypeId} {fr : Nat × Nat} (h : Num k B w v X n) (hb : w.heap[g]? = some (.cells #[.bool b0, .slice A0 m0 c0, .bool b1, .slice A1 m1 c1] t fr)) :
    Num k B ((((w.setCell ⟨g, 0, none⟩ (.bool b0')).setCell ⟨g, 1, none⟩ (.slice A0' m0' c0')).setCell ⟨g, 2, none⟩ (.bool b1')).setCell ⟨g, 3, none⟩ (.slice A1' m1' c1')) v X n := by
  have n0 := NoInt.four b0 A0 m0 c0 b1 A1 m1 c1
  have n1 := n0.set 0 (v := .bool b0') (by simp)
  have n2 := n1.set 1 (v := .slice A0' m0' c0') (by simp)
  have n3 := n2.set 2 (v := .bool b1') (by simp)
  exact (((h.store hb n0).store (heap_setCell hb _) n1).store (heap_setCell (heap_setCell hb _) _) n2).store (heap_setCell (heap_setCell (heap_setCell hb _) _) _) n3
theorem WInt.put4 {g : Nat} {w : World} {v : Value} {Z : Int} {L : Nat} {b0 b0' b1 b1' : Bool} {A0 A0' A1 A1' : Option Addr} {m0 c0 m0' c0' m1 c1 m1' c1' : Nat} {t : TypeId} {fr : Nat × Nat} (h : WInt w v Z L) (hb : w.heap[g]? = some (.cells #[.bool b0, .slice A0 m0 c0, .bool b1, .slice A1 m1 c1] t fr)) :
    WInt ((((w.setCell ⟨g, 0, none⟩ (.bool b0')).setCell ⟨g, 1, none⟩ (.slice A0' m0' c0')).setCell ⟨g, 2, none⟩ (.bool b1')).setCell ⟨g, 3, none⟩ (.slice A1' m1' c1')) v Z L := by
  obtain ⟨s, A, m, X, e, h1, h2⟩ := h
  exact ⟨s, A, m, X, e, h1.put4 hb, h2⟩
theorem below4 {w w' : World} {g : Nat} (h : Below w.heap.size w w') (hg : w.heap.size ≤ g) (u0 u1 u2 u3 : Value) : Below w.heap.size w ((((w'.setCell ⟨g, 0, none⟩ u0).setCell ⟨g, 1, none⟩ u1).setCell ⟨g, 2, none⟩ u2).setCell ⟨g, 3, none⟩ u3) :=
  (((h.setCell hg _).setCell hg _).setCell hg _).setCell hg _
set_option maxRecDepth 100000 in
theorem less_calls (s : Bool) (A : Option Addr) (n c X : Nat) (gb db : Nat) (GA : Option Addr) (r Gc G : Nat) (s2 : Bool) (w : World) (h : Num .u64 B64 w (.slice A n c) X n) (hg : Num .u64 B64 w (.slice GA r Gc) G r) (hG : 0 < G) (hn : n ≤ 100) (hr : r ≤ 100)
    (h1 : w.cell? ⟨gb, 0, none⟩ = some (.slice GA r Gc)) (h2 : w.cell? ⟨db, 0, none⟩ = some (.bool s2)) :
    Calls Tryz.prog 33 #[.agg #[.bool s, .slice A n c], .pointer (some ⟨gb, 0, none⟩), .pointer (some ⟨db, 0, none⟩)] w fun e w' => ∃ v, e = .returned v ∧ WInt w' v (sgn (s != s2) (X / G)) n ∧ Below w.heap.size w w' := by
  have H := Lib.hid h
  have K := Lib.hid hg
  have hG' := Lib.hid hG
  have B0 : ∀ o o', Below w.heap.size w ((w.alloc o).alloc o') := fun o o' => ((Below.refl _ w).alloc (Nat.le_refl _) _).alloc (by simp) _
  have h1' : ∀ o o', ((w.alloc o).alloc o').cell? ⟨gb, 0, none⟩ = some (.slice GA r Gc) := fun o o' => cell_below (B0 o o') h1
  have h2' : ∀ o o', ((w.alloc o).alloc o').cell? ⟨db, 0, none⟩ = some (.bool s2) := fun o o' => cell_below (B0 o o') h2
  have B0H := Lib.hid B0
  have hA : Hid (∀ o', ((w.alloc (.cells #[.bool s, .slice A n c] 24)).alloc o').heap[w.heap.size]? = some (.cells #[.bool s, .slice A n c] 24 (0, 0))) := fun o' => (((Below.refl (w.heap.size + 1) _).alloc (by simp) _).block _ (by omega)).trans (alloc_at rfl)
  have hR : Hid (∀ o, ((w.alloc o).alloc (.cells #[.bool false, .slice none 0 0] 24)).heap[w.heap.size + 1]? = some (.cells #[.bool false, .slice none 0 0] 24 (0, 0))) := fun o => alloc_at (by simp)
  have h1H := Lib.hid h1'
  have h2H := Lib.hid h2'
  clear h hg hG h1 h2 B0 h2'
  go_enter Tryz.func33, Tryz.ntmps33
  go_wp2_with fail
  refine (quo_calls _ _ X G n r _ (H.out.below (B0H.out _ _)) (K.out.below (B0H.out _ _)) (by omega) (by omega) hG'.out).mono ?_
  rintro e w1 ⟨v1, v2, rfl, ⟨⟨r1, hq, lq⟩, _⟩, hb⟩
  obtain ⟨QA, Qc, rfl, _, _⟩ := hq.form
  have hr1 : r1 ≤ n := lq.le (Nat.lt_of_le_of_lt (Nat.div_le_self _ _) H.out.lt)
  have d0 := cell_below hb (h2H.out _ _)
  obtain ⟨a0, a1, _, _⟩ := kept_cells ((hb.block _ (by simp; omega)).trans (hA.out _))
  have hRR := Lib.hid ((hb.block _ (by simp)).trans (hR.out _))
  have B1 := Lib.hid (below_next' (w1 := _) (B0H.out _ _) hb)
  have HQ := Lib.hid hq
  have hsz : w.heap.size + 2 ≤ w1.heap.size := by have := hb.size; simp at this; omega
  clear hb hq lq h1' h1H h2H B0H hA hR
  go_wp2_with fail
  refine (plainw_calls _ (sgn (s != s2) (X / G)) n _ ⟨s != s2, QA, r1, Qc, X / G, rfl, HQ.out, hr1, rfl⟩).mono ?_
  rintro e w2 ⟨v2, rfl, hP, hb⟩
  obtain ⟨b2, A2, m2, rfl⟩ := hP.form
  have hblk := (hb.block _ (by omega)).trans hRR.out
  have hput := Lib.hid (WInt.put (below_next' B1.out hb) (by omega) hblk hP)
  obtain ⟨k0, k1, k2, k3⟩ := kept_cells hblk
  obtain ⟨q0, q1⟩ := kept_reads hblk (.bool b2) (.slice A2 m2 m2)
  clear hb hP hblk a0 a1 d0
  go_wp2_with fail
  refine bodyPost_ret (v := .agg #[.bool b2, .slice A2 m2 m2]) (by simp [results, Tryz.results33, go_sem, q0, q1]) rfl ?_
  exact ⟨_, rfl, hput.out.1, hput.out.2⟩
theorem sgn_abs {s t : Bool} {X Y : Nat} (h : sgn s X = sgn t Y) : X = Y := by
  cases s <;> cases t <;> simp [sgn] at h <;> omega
theorem sgn_flag {s t : Bool} {X : Nat} (h : sgn s X = sgn t X) (hX : 0 < X) : s = t := by
  cases s <;> cases t <;> simp [sgn] at h ⊢ <;> omega
set_option maxHeartbeats 4000000 in
set_option maxRecDepth 100000 in
theorem make_calls (s : Bool) (A : Option Addr) (n c X : Nat) (s' : Bool) (A' : Option Addr) (n' c' X' : Nat) (w : World) (h : Num .u64 B64 w (.slice A n c) X n) (k : Num .u64 B64 w (.slice A' n' c') X' n') (hn : n ≤ 100) (hn' : n' ≤ 100) (hT : TabAt w) :
    Calls Tryz.prog 13 #[.agg #[.bool s, .slice A n c], .agg #[.bool s', .slice A' n' c']] w fun e w' =>
      (X' = 0 → e = .returned (.tuple #[.agg #[.bool false, .slice none 0 0, .bool false, .slice none 0 0], errN 6])) ∧
      (0 < X' → ∃ ns NA nn ds DA dn, e = .returned (.tuple #[.agg #[.bool ns, .slice NA nn nn, .bool ds, .slice DA dn dn], .nilIface]) ∧ WInt w' (.agg #[.bool ns, .slice NA nn nn]) (sgn (s != s') (X / Nat.gcd X X')) n ∧ WInt w' (.agg #[.bool ds, .slice DA dn dn]) (sgn false (X' / Nat.gcd X X')) n') ∧ Below w.heap.size w w' := by
  have H := Lib.hid (AInt.mk (s := s) h)
  have K := Lib.hid (AInt.mk (s := s') k)
  have T := Lib.hid hT
  clear h k hT
  go_enter Tryz.func13, Tryz.ntmps13
  go_wp2_with fail
  have E := two_in w s A n c s' A' n' c' 24 (.cells #[.bool false, .slice none 0 0, .bool false, .slice none 0 0] 26)
  generalize (((w.alloc (.cells #[.bool s, .slice A n c] 24)).alloc (.cells #[.bool s', .slice A' n' c'] 24)).alloc (.cells #[.bool false, .slice none 0 0, .bool false, .slice none 0 0] 26)) = W at *
  obtain ⟨E1, E2, E3, EB, ES⟩ := E
  obtain ⟨a0, a1, _, _⟩ := kept_cells E1
  obtain ⟨b0, b1, _, _⟩ := kept_cells E2
  refine wp_region_gives0 4 [IsV (.agg #[.bool s, .slice A n c]), IsW (sgn s X) n, IsV (.agg #[.bool s', .slice A' n' c']), IsW (sgn s' X') n']
    (by kernel_rfl) (by kernel_rfl) rfl ⟨pers_isV _, pers_isW _ _, pers_isV _, pers_isW _ _, trivial⟩ ?_ ?_
  · simp only [List.take_succ_cons, List.take_zero, Obl0, putAll, Act.put, List.setIfInBounds_toArray, List.set_cons_zero, List.set_cons_succ, Nat.reduceAdd]
    refine ⟨?_, ?_, ?_, ?_, trivial⟩
    all_goals
      intro xs w' hE hf K' hK'
      simp only [factsOf, Region.binds, List.getElem?_cons_zero, List.getElem?_cons_succ, IsV, forall_const, true_and, and_true] at hf
    · have c0 := cell_below hE a0
      have c1 := cell_below hE a1
      go_simp
      exact hK'.out _ _ rfl (Ext.refl _)
    · simp only [hf] at hK' ⊢
      go_simp
      refine (plainw_calls _ (sgn s X) n _ (H.out.below (EB.trans (hE.mono EB.size)))).mono ?_
      rintro e w1 ⟨v1, rfl, hR, hb⟩
      exact hK'.out _ _ hR hb
    · have c0 := cell_below hE b0
      have c1 := cell_below hE b1
      go_simp
      exact hK'.out _ _ rfl (Ext.refl _)
    · simp only [hf] at hK' ⊢
      go_simp
      refine (plainw_calls _ (sgn s' X') n' _ (K.out.below (EB.trans (hE.mono EB.size)))).mono ?_
      rintro e w1 ⟨v1, rfl, hR, hb⟩
      exact hK'.out _ _ hR hb
  simp only [List.drop_succ_cons, List.drop_zero, List.take_succ_cons, List.take_zero, putAll, Act.put, List.setIfInBounds_toArray, List.set_cons_zero, List.set_cons_succ, Nat.reduceAdd]
  intro xs w1 hE hf
  simp only [factsAll, IsV, IsW, Nat.reduceAdd] at hf
  obtain ⟨e0, ⟨s1, A1, m1, X1, e1, hN1, hl1, hm1, hZ1, hp1⟩, e2, ⟨s2, A2, m2, X2, e3, hN2, hl2, hm2, hZ2, hp2⟩, _⟩ := hf
  simp only [e0, e1, e2, e3]
  have hs1 := hE.size
  replace E1 := (hE.block _ (by omega)).trans E1
  replace E2 := (hE.block _ (by omega)).trans E2
  replace E3 := (hE.block _ (by omega)).trans E3
  have B1 : Below w.heap.size w w1 := EB.trans (hE.mono (by omega))
  clear hE a0 a1 b0 b1 e0 e1 e2 e3 EB H K
  obtain ⟨ka0, ka1, ka2, ka3⟩ := kept_cells E1
  obtain ⟨P1, P2, P3⟩ := put2 E1 (.bool s1) (.slice A1 m1 m1)
  have hN1' := hN1.put2 (b' := s1) (A' := A1) (m' := m1) (c' := m1) E1
  have hN2' := hN2.put2 (b' := s1) (A' := A1) (m' := m1) (c' := m1) E1
  have B1' : Below w.heap.size w ((w1.setCell ⟨w.heap.size, 0, none⟩ (.bool s1)).setCell ⟨w.heap.size, 1, none⟩ (.slice A1 m1 m1)) := (B1.setCell (Nat.le_refl _) _).setCell (Nat.le_refl _) _
  have E2' := (P2 (w.heap.size + 1) (by omega)).trans E2
  have E3' := (P2 (w.heap.size + 1 + 1) (by omega)).trans E3
  obtain ⟨kb0, kb1, kb2, kb3⟩ := kept_cells E2'
  obtain ⟨Q1, Q2, Q3⟩ := put2 E2' (.bool s2) (.slice A2 m2 m2)
  have HA := Lib.hid (hN1'.put2 (b' := s2) (A' := A2) (m' := m2) (c' := m2) E2')
  have HB := Lib.hid (hN2'.put2 (b' := s2) (A' := A2) (m' := m2) (c' := m2) E2')
  have B2 : Below w.heap.size w ((((w1.setCell ⟨w.heap.size, 0, none⟩ (.bool s1)).setCell ⟨w.heap.size, 1, none⟩ (.slice A1 m1 m1)).setCell ⟨w.heap.size + 1, 0, none⟩ (.bool s2)).setCell ⟨w.heap.size + 1, 1, none⟩ (.slice A2 m2 m2)) := (B1'.setCell (Nat.le_succ _) _).setCell (Nat.le_succ _) _
  have EA := (Q2 w.heap.size (by omega)).trans P1
  have ER := (Q2 (w.heap.size + 1 + 1) (by omega)).trans E3'
  have hsz := Q3.trans (P3.trans rfl)
  have LA := Lib.hid hl1
  have LB := Lib.hid hl2
  clear hN1 hN2 hN1' hN2' E1 E2 E2' E3 E3' B1 B1' P1 P2 Q2 hl1 hl2
  obtain rfl := sgn_abs hZ1
  obtain rfl := sgn_abs hZ2
  have hZ1' := Lib.hid hZ1
  have hZ2' := Lib.hid hZ2
  have K3 : Hid (AInt ((((w1.setCell ⟨w.heap.size, 0, none⟩ (.bool s1)).setCell ⟨w.heap.size, 1, none⟩ (.slice A1 m1 m1)).setCell ⟨w.heap.size + 1, 0, none⟩ (.bool s2)).setCell ⟨w.heap.size + 1, 1, none⟩ (.slice A2 m2 m2)) (.agg #[.bool s2, .slice A2 m2 m2]) (sgn s' X') n') := ⟨s2, A2, m2, m2, X', rfl, HB.out, hm2, hZ2⟩
  clear hZ1 hZ2
  go_wp2_with fail
  generalize ((((w1.setCell ⟨w.heap.size, 0, none⟩ (.bool s1)).setCell ⟨w.heap.size, 1, none⟩ (.slice A1 m1 m1)).setCell ⟨w.heap.size + 1, 0, none⟩ (.bool s2)).setCell ⟨w.heap.size + 1, 1, none⟩ (.slice A2 m2 m2)) = W2 at *
  clear ka0 ka1 ka2 ka3 kb0 kb1 kb2 kb3
  refine (signw_calls _ _ _ _ K3.out).mono ?_
  rintro e w3 ⟨rfl, hb⟩
  replace EA := (hb.block _ (by omega)).trans EA
  replace Q1 := (hb.block _ (by omega)).trans Q1
  replace ER := (hb.block _ (by omega)).trans ER
  replace HA := Lib.hid (HA.out.below hb)
  replace HB := Lib.hid (HB.out.below hb)
  have B3 := Lib.hid (B2.trans (hb.mono (by omega)))
  have hs3 := hb.size
  clear hb B2 K3
  obtain ⟨⟨r0, r1, r2, r3⟩, rf⟩ := kept4 ER
  obtain ⟨a0, a1, a2, a3⟩ := kept_cells EA
  obtain ⟨b0, b1, b2, b3⟩ := kept_cells Q1
  rcases Nat.eq_zero_or_pos X' with hX | hX
  · have hsg : (sgn s' X').sign = 0 := by rw [hX]; cases s' <;> rfl
    rw [hsg]
    have hX2 := Lib.hid hX
    have hf0 := rf 0
    have hf1 := rf 1
    have hf2 := rf 2
    have hf3 := rf 3
    obtain ⟨⟨q0, q1, q2, q3⟩, _⟩ := kept4 (put4 ER (.bool false) (.slice none 0 0) (.bool false) (.slice none 0 0))
    have BE := Lib.hid (below4 (g := w.heap.size + 1 + 1) B3.out (by omega) (.bool false) (.slice none 0 0) (.bool false) (.slice none 0 0))
    clear hX hsg EA Q1 ER
    go_wp2_with fail
    refine bodyPost_ret (v := .tuple #[.agg #[.bool false, .slice none 0 0, .bool false, .slice none 0 0], errN 6]) (by simp [results, Tryz.results13, go_sem, q0, q1, q2, q3, errN]) rfl ?_
    exact ⟨fun _ => rfl, fun h => by have := hX2.out; omega, BE.out⟩
  · have hsg : ((sgn s' X').sign == 0) = false := by
      simp [Int.sign_eq_zero_iff_zero]
      cases s' <;> simp [sgn] <;> omega
    obtain ⟨z, hz⟩ : ∃ z, z = (sgn s' X').sign := ⟨_, rfl⟩
    rw [← hz] at hsg
    rw [← hz]
    have hX2 := Lib.hid hX
    clear hX hz
    go_wp2_with fail
    refine (gcd_calls _ _ X X' m1 m2 _ HA.out HB.out (by omega) (by omega) (T.out.below B3.out)).mono ?_
    rintro e w4 ⟨v1, r, rfl, hg, lg, hb⟩
    obtain ⟨GA, Gc, rfl, _, _⟩ := hg.form
    have hG0 : Hid (0 < Nat.gcd X X') := Nat.gcd_pos_of_pos_right X hX2.out
    have hr : r ≤ 100 := by
      have h1 := lg.le (Nat.lt_of_le_of_lt (Nat.gcd_le_right X hX2.out) HB.out.lt)
      omega
    have BG : Hid (∀ o, Below w4.heap.size w4 (w4.alloc o)) := fun o => (Below.refl _ _).alloc (Nat.le_refl _) _
    have HG := Lib.hid hg
    have HA4 := Lib.hid (HA.out.below hb)
    have HB4 := Lib.hid (HB.out.below hb)
    have EA4 := (hb.block _ (by omega)).trans EA
    have EB4 := (hb.block _ (by omega)).trans Q1
    have ER4 := Lib.hid ((hb.block _ (by omega)).trans ER)
    have B4 := Lib.hid (B3.out.trans (hb.mono (by omega)))
    have hs4 := hb.size
    have hz4 : w.heap.size + 3 ≤ w4.heap.size := by omega
    obtain ⟨ea0, ea1, _, _⟩ := kept_cells EA4
    obtain ⟨eb0, eb1, _, _⟩ := kept_cells EB4
    have F : Hid (∀ x y (t : TypeId), (w4.alloc (.cells #[.slice GA r Gc] t)).cell? ⟨w.heap.size, 0, none⟩ = some (.bool s1) ∧ (w4.alloc (.cells #[.slice GA r Gc] t)).cell? ⟨w.heap.size, 1, none⟩ = some (.slice A1 m1 m1) ∧ (w4.alloc (.cells #[.slice GA r Gc] t)).cell? ⟨w.heap.size + 1, 0, none⟩ = some (.bool s2) ∧ (w4.alloc (.cells #[.slice GA r Gc] t)).cell? ⟨w.heap.size + 1, 1, none⟩ = some (.slice A2 m2 m2) ∧ (w4.alloc (.cells #[.slice GA r Gc] t)).cell? ⟨w4.heap.size, 0, none⟩ = some (.slice GA r Gc)) := fun (x y : Nat) t => by
      refine ⟨cell_below (BG.out _) ea0, cell_below (BG.out _) ea1, cell_below (BG.out _) eb0, cell_below (BG.out _) eb1, ?_⟩
      rw [World.cell?_alloc_at _ _ _ _ rfl]; rfl
    clear hb hg lg EA Q1 ER EA4 EB4 B3 HA HB ea0 ea1 eb0 eb1 a0 a1 a2 a3 b0 b1 b2 b3 r0 r1 r2 r3 rf hs3
    go_wp2_with fail
    refine wp_region_gives0 7 [IsV (.func (.func 33) #[] #[.pointer (some ⟨w4.heap.size, 0, none⟩), .pointer (some ⟨w.heap.size + 1, 0, none⟩)]), IsV (.agg #[.bool s1, .slice A1 m1 m1]), IsW (sgn (s1 != s2) (X / Nat.gcd X X')) n, IsV (.func (.func 33) #[] #[.pointer (some ⟨w4.heap.size, 0, none⟩), .pointer (some ⟨w.heap.size + 1, 0, none⟩)]), IsV (.agg #[.bool s2, .slice A2 m2 m2]), IsW (sgn false (X' / Nat.gcd X X')) n', fun v w => ∃ ns NA nn ds DA dn, v = .agg #[.bool ns, .slice NA nn nn, .bool ds, .slice DA dn dn] ∧ WInt w (.agg #[.bool ns, .slice NA nn nn]) (sgn (s1 != s2) (X / Nat.gcd X X')) n ∧ WInt w (.agg #[.bool ds, .slice DA dn dn]) (sgn false (X' / Nat.gcd X X')) n']
      (by kernel_rfl) (by kernel_rfl) rfl ⟨pers_isV _, pers_isV _, pers_isW _ _, pers_isV _, pers_isV _, pers_isW _ _, (fun v w w' ⟨ns, NA, nn, ds, DA, dn, e, h1, h2⟩ hE => ⟨ns, NA, nn, ds, DA, dn, e, h1.below hE, h2.below hE⟩), trivial⟩ ?_ ?_
    · simp only [List.take_succ_cons, List.take_zero, Obl0, putAll, Act.put, List.setIfInBounds_toArray, List.set_cons_zero, List.set_cons_succ, Nat.reduceAdd]
      refine ⟨?_, ?_, ?_, ?_, ?_, ?_, ?_, trivial⟩
      all_goals
        intro xs w' hE hf K' hK'
        simp only [factsOf, Region.binds, List.getElem?_cons_zero, List.getElem?_cons_succ, IsV, forall_const, true_and, and_true] at hf
      · go_simp
        exact hK'.out _ _ rfl (Ext.refl _)
      · have c0 := cell_below hE (F.out 0 0 _).1
        have c1 := cell_below hE (F.out 0 0 _).2.1
        go_simp
        exact hK'.out _ _ rfl (Ext.refl _)
      · obtain ⟨f1, f2⟩ := hf
        simp only [f1, f2] at hK' ⊢
        go_simp
        refine (less_calls s1 A1 m1 m1 X w4.heap.size (w.heap.size + 1) GA r Gc (Nat.gcd X X') s2 _ (HA4.out.below ((BG.out _).trans (hE.mono (BG.out _).size))) (HG.out.below ((BG.out _).trans (hE.mono (BG.out _).size))) hG0.out (by omega) (by omega) (cell_below hE (F.out 0 0 _).2.2.2.2) (cell_below hE (F.out 0 0 _).2.2.1)).mono ?_
        rintro e w1 ⟨v1, rfl, hR, hb⟩
        exact hK'.out _ _ (hR.le (by omega)) hb
      · go_simp
        exact hK'.out _ _ rfl (Ext.refl _)
      · have c0 := cell_below hE (F.out 0 0 _).2.2.1
        have c1 := cell_below hE (F.out 0 0 _).2.2.2.1
        go_simp
        exact hK'.out _ _ rfl (Ext.refl _)
      · obtain ⟨f1, f2, _⟩ := hf
        simp only [f1, f2] at hK' ⊢
        go_simp
        refine (less_calls s2 A2 m2 m2 X' w4.heap.size (w.heap.size + 1) GA r Gc (Nat.gcd X X') s2 _ (HB4.out.below ((BG.out _).trans (hE.mono (BG.out _).size))) (HG.out.below ((BG.out _).trans (hE.mono (BG.out _).size))) hG0.out (by omega) (by omega) (cell_below hE (F.out 0 0 _).2.2.2.2) (cell_below hE (F.out 0 0 _).2.2.1)).mono ?_
        rintro e w1 ⟨v1, rfl, hR, hb⟩
        have e2 : (s2 != s2) = false := by simp
        rw [e2] at hR
        exact hK'.out _ _ (hR.le (by omega)) hb
      · obtain ⟨f1, f2⟩ := hf
        obtain ⟨ns, NA, nn, e1⟩ := WInt.form f1
        obtain ⟨ds, DA, dn, e2⟩ := WInt.form f2
        simp only [e1, e2] at hK' ⊢
        rw [e1] at f1
        rw [e2] at f2
        go_simp
        exact hK'.out _ _ ⟨_, _, _, _, _, _, rfl, f1, f2⟩ (Ext.refl _)
    simp only [List.drop_succ_cons, List.drop_zero, List.take_succ_cons, List.take_zero, putAll, Act.put, List.setIfInBounds_toArray, List.set_cons_zero, List.set_cons_succ, Nat.reduceAdd]
    intro xs w5 hE hf
    simp only [factsAll, IsV, Nat.reduceAdd] at hf
    obtain ⟨e0, e1, _, e3, e4, _, ⟨ns, NA, nn, ds, DA, dn, e6, hN6, hD6⟩, _⟩ := hf
    simp only [e0, e1, e3, e4, e6]
    have hblk := (hE.block _ (by simp; omega)).trans (((BG.out _).block _ (by omega)).trans ER4.out)
    have B5 : Below w.heap.size w w5 := (B4.out.trans ((BG.out _).mono (by omega))).trans (hE.mono (by simp; omega))
    obtain ⟨⟨r0, r1, r2, r3⟩, rf⟩ := kept4 hblk
    have hf0 := rf 0
    have hf1 := rf 1
    have hf2 := rf 2
    have hf3 := rf 3
    obtain ⟨⟨q0, q1, q2, q3⟩, _⟩ := kept4 (put4 hblk (.bool ns) (.slice NA nn nn) (.bool ds) (.slice DA dn dn))
    have BE := Lib.hid (below4 (g := w.heap.size + 1 + 1) B5 (by omega) (.bool ns) (.slice NA nn nn) (.bool ds) (.slice DA dn dn))
    have hN7 := hN6.put4 (b0' := ns) (A0' := NA) (m0' := nn) (c0' := nn) (b1' := ds) (A1' := DA) (m1' := dn) (c1' := dn) hblk
    have hD7 := hD6.put4 (b0' := ns) (A0' := NA) (m0' := nn) (c0' := nn) (b1' := ds) (A1' := DA) (m1' := dn) (c1' := dn) hblk
    have hNe : sgn (s1 != s2) (X / Nat.gcd X X') = sgn (s != s') (X / Nat.gcd X X') := by
      have h2 : s' = s2 := sgn_flag hZ2'.out hX2.out
      rcases Nat.eq_zero_or_pos X with h0 | h0
      · rw [h0, Nat.zero_div]
        cases s1 <;> cases s2 <;> cases s <;> cases s' <;> rfl
      · rw [sgn_flag hZ1'.out h0, h2]
    rw [hNe] at hN7
    have HN7 := Lib.hid hN7
    have HD7 := Lib.hid hD7
    clear e0 e1 e3 e4 e6 hE hblk B5 hN6 hD6 hN7 hD7 rf hNe F
    go_wp2_with fail
    refine bodyPost_ret (v := .tuple #[.agg #[.bool ns, .slice NA nn nn, .bool ds, .slice DA dn dn], .nilIface]) (by simp [results, Tryz.results13, go_sem, q0, q1, q2, q3]) rfl ?_
    exact ⟨fun h => by have := hX2.out; omega, fun _ => ⟨_, _, _, _, _, _, rfl, HN7.out, HD7.out⟩, BE.out⟩
end Go.Proofs.YtmobnjlbbhhedaaGreatDoor
