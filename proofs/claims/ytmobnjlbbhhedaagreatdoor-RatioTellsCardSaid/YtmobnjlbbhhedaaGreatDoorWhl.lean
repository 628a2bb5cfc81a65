/- Ratios compared, in plain Lean. -/
import Derived.Test.YtmobnjlbbhhedaaGreatDoorText
import Derived.Test.YtmobnjlbbhhedaaGreatDoorRefFa
import Derived.Test.YtmobnjlbbhhedaaGreatDoorRefV
namespace Go.Proofs.YtmobnjlbbhhedaaGreatDoor

/-- How a/b is to c/d, neither b nor d being 0. -/
def cmpQ (a b c d : Int) : Int := b.sign * d.sign * (a * d - c * b).sign
theorem cmpQ_anti (a b c d : Int) : cmpQ a b c d = -cmpQ c d a b := by
  unfold cmpQ
  have e : c * b - a * d = -(a * d - c * b) := by omega
  rw [e, Int.sign_neg, Int.mul_neg, Int.neg_neg, Int.mul_comm b.sign]
theorem cmpQ_eq (a b c d : Int) : cmpQ a b c d = ((a * b.sign) * (d * d.sign) - (c * d.sign) * (b * b.sign)).sign := by
  have e : (a * b.sign) * (d * d.sign) - (c * d.sign) * (b * b.sign) = b.sign * d.sign * (a * d - c * b) := by
    rw [Int.mul_sub]
    congr 1
    · simp only [Int.mul_comm, Int.mul_left_comm, Int.mul_assoc]
    · simp only [Int.mul_comm, Int.mul_left_comm, Int.mul_assoc]
  rw [e, Int.sign_mul, Int.sign_mul, Int.sign_sign, Int.sign_sign]
  rfl
theorem sign_nonneg' (z : Int) : 0 ≤ z.sign ↔ 0 ≤ z := by
  rcases Int.lt_trichotomy z 0 with h | h | h
  · rw [Int.sign_eq_neg_one_of_neg h]; omega
  · subst h; simp
  · rw [Int.sign_eq_one_of_pos h]; omega
theorem sign_nonpos' (z : Int) : z.sign ≤ 0 ↔ z ≤ 0 := by
  rcases Int.lt_trichotomy z 0 with h | h | h
  · rw [Int.sign_eq_neg_one_of_neg h]; omega
  · subst h; simp
  · rw [Int.sign_eq_one_of_pos h]; omega
theorem sign_if (z : Int) : (if z < 0 then -1 else if z = 0 then (0 : Int) else 1) = z.sign := by
  rcases Int.lt_trichotomy z 0 with h | h | h
  · rw [Int.sign_eq_neg_one_of_neg h, if_pos h]
  · subst h; simp
  · rw [Int.sign_eq_one_of_pos h, if_neg (by omega), if_neg (by omega)]
theorem mul_sign_pos {b : Int} (h : b ≠ 0) : 0 < b * b.sign := by
  rcases Int.lt_trichotomy b 0 with h1 | h1 | h1
  · rw [Int.sign_eq_neg_one_of_neg h1]; omega
  · exact absurd h1 h
  · rw [Int.sign_eq_one_of_pos h1]; omega
theorem order_trans {p1 q1 p2 q2 p3 q3 : Int} (h1 : 0 < q1) (h2 : 0 < q2) (h3 : 0 < q3) (k : p2 * q1 ≤ p1 * q2) (l : p3 * q2 ≤ p2 * q3) : p3 * q1 ≤ p1 * q3 := by
  have a1 : p3 * q2 * q1 ≤ p2 * q3 * q1 := Int.mul_le_mul_of_nonneg_right l (Int.le_of_lt h1)
  have a2 : p2 * q1 * q3 ≤ p1 * q2 * q3 := Int.mul_le_mul_of_nonneg_right k (Int.le_of_lt h3)
  have e1 : p3 * q2 * q1 = p3 * q1 * q2 := by rw [Int.mul_assoc, Int.mul_comm q2 q1, ← Int.mul_assoc]
  have e2 : p2 * q3 * q1 = p2 * q1 * q3 := by rw [Int.mul_assoc, Int.mul_comm q3 q1, ← Int.mul_assoc]
  have e3 : p1 * q2 * q3 = p1 * q3 * q2 := by rw [Int.mul_assoc, Int.mul_comm q2 q3, ← Int.mul_assoc]
  rw [e1, e2] at a1
  rw [e3] at a2
  exact Int.le_of_mul_le_mul_right (Int.le_trans a1 a2) h2
theorem cmpQ_up {a b c d e f : Int} (hb : b ≠ 0) (hd : d ≠ 0) (hf : f ≠ 0) (h : 0 ≤ cmpQ a b c d) (k : 0 ≤ cmpQ c d e f) : 0 ≤ cmpQ a b e f := by
  rw [cmpQ_eq, sign_nonneg'] at *
  have := order_trans (mul_sign_pos hb) (mul_sign_pos hd) (mul_sign_pos hf) (Int.sub_nonneg.1 h) (Int.sub_nonneg.1 k)
  exact Int.sub_nonneg.2 this
theorem cmpQ_down {a b c d e f : Int} (hb : b ≠ 0) (hd : d ≠ 0) (hf : f ≠ 0) (h : cmpQ a b c d ≤ 0) (k : cmpQ c d e f ≤ 0) : cmpQ a b e f ≤ 0 := by
  rw [cmpQ_anti] at *
  have h' : 0 ≤ cmpQ c d a b := by omega
  have k' : 0 ≤ cmpQ e f c d := by omega
  have := cmpQ_up hf hd hb k' h'
  omega
theorem cmpQ_zero_iff {a b c d : Int} (hb : b ≠ 0) (hd : d ≠ 0) : cmpQ a b c d = 0 ↔ a * d = c * b := by
  unfold cmpQ
  have h1 : b.sign ≠ 0 := fun h => hb (Int.sign_eq_zero_iff_zero.1 h)
  have h2 : d.sign ≠ 0 := fun h => hd (Int.sign_eq_zero_iff_zero.1 h)
  constructor
  · intro h
    rcases Int.mul_eq_zero.1 h with h | h
    · rcases Int.mul_eq_zero.1 h with h | h
      · exact absurd h h1
      · exact absurd h h2
    · have := Int.sign_eq_zero_iff_zero.1 h
      omega
  · intro h
    have e : a * d - c * b = 0 := by omega
    rw [e, Int.sign_zero, Int.mul_zero]
/-- Two fractions in least terms that are as much are the same. -/
theorem least_same {x y u v : Nat} (hy : 0 < y) (hv : 0 < v) (g1 : Nat.gcd x y = 1) (g2 : Nat.gcd u v = 1) (h : x * v = u * y) : x = u ∧ y = v := by
  have d1 : y ∣ v := by
    have : y ∣ x * v := ⟨u, by rw [h, Nat.mul_comm]⟩
    exact (Nat.Coprime.dvd_of_dvd_mul_left (show Nat.Coprime y x from by rw [Nat.Coprime, Nat.gcd_comm]; exact g1) this)
  have d2 : v ∣ y := by
    have : v ∣ u * y := ⟨x, by rw [← h, Nat.mul_comm]⟩
    exact (Nat.Coprime.dvd_of_dvd_mul_left (show Nat.Coprime v u from by rw [Nat.Coprime, Nat.gcd_comm]; exact g2) this)
  have e := Nat.dvd_antisymm d1 d2
  subst e
  exact ⟨Nat.eq_of_mul_eq_mul_right hy h, rfl⟩
end Go.Proofs.YtmobnjlbbhhedaaGreatDoor

set_option linter.unusedVariables false
set_option linter.unusedSimpArgs false
namespace Go.Proofs.YtmobnjlbbhhedaaGreatDoor
open Go.RowKit

/-- A number with a sign. -/
def AInt (w : World) (v : Value) (Z : Int) (L : Nat) : Prop :=
  ∃ s A n c X, v = .agg #[.bool s, .slice A n c] ∧ Num .u64 B64 w (.slice A n c) X n ∧ n ≤ L ∧ Z = sgn s X
/-- A number with a sign, plain. -/
def WInt (w : World) (v : Value) (Z : Int) (L : Nat) : Prop :=
  ∃ s A m X, v = .agg #[.bool s, .slice A m m] ∧ Num .u64 B64 w (.slice A m m) X m ∧ IsLen B64 X m ∧ m ≤ L ∧ Z = sgn s X ∧ (s = true → 0 < X)
theorem AInt.below {w w' : World} {v : Value} {Z : Int} {L : Nat} (h : AInt w v Z L) (hb : Below w.heap.size w w') : AInt w' v Z L := by
  obtain ⟨s, A, n, c, X, e, h1, h2⟩ := h
  exact ⟨s, A, n, c, X, e, h1.below hb, h2⟩
theorem WInt.below {w w' : World} {v : Value} {Z : Int} {L : Nat} (h : WInt w v Z L) (hb : Below w.heap.size w w') : WInt w' v Z L := by
  obtain ⟨s, A, m, X, e, h1, h2⟩ := h
  exact ⟨s, A, m, X, e, h1.below hb, h2⟩
theorem AInt.le {w : World} {v : Value} {Z : Int} {L L' : Nat} (h : AInt w v Z L) (hb : L ≤ L') : AInt w v Z L' := by
  obtain ⟨s, A, n, c, X, e, h1, h2, h3⟩ := h
  exact ⟨s, A, n, c, X, e, h1, by omega, h3⟩
theorem WInt.le {w : World} {v : Value} {Z : Int} {L L' : Nat} (h : WInt w v Z L) (hb : L ≤ L') : WInt w v Z L' := by
  obtain ⟨s, A, m, X, e, h1, h2, h3, h4⟩ := h
  exact ⟨s, A, m, X, e, h1, h2, by omega, h4⟩
theorem WInt.toA {w : World} {v : Value} {Z : Int} {L : Nat} (h : WInt w v Z L) : AInt w v Z L := by
  obtain ⟨s, A, m, X, e, h1, h2, h3, h4, h5⟩ := h
  exact ⟨s, A, m, m, X, e, h1, h3, h4⟩
theorem WInt.form {w : World} {v : Value} {Z : Int} {L : Nat} (h : WInt w v Z L) : ∃ b A m, v = .agg #[.bool b, .slice A m m] := by
  obtain ⟨b, A, m, X, e, _⟩ := h
  exact ⟨b, A, m, e⟩
theorem AInt.mk {w : World} {s : Bool} {A : Option Addr} {n c X : Nat} (h : Num .u64 B64 w (.slice A n c) X n) : AInt w (.agg #[.bool s, .slice A n c]) (sgn s X) n := ⟨s, A, n, c, X, rfl, h, Nat.le_refl _, rfl⟩
/-- What is known of a value: it is this number. -/
def IsW (Z : Int) (L : Nat) : Value → World → Prop := fun v w => WInt w v Z L
theorem pers_isW (Z : Int) (L : Nat) : Pers (IsW Z L) := fun v w w' h hE => WInt.below h hE
theorem WInt.put {w w1 : World} {g : Nat} {b0 b : Bool} {A0 A : Option Addr} {m0 c0 m c : Nat} {t : TypeId} {fr : Nat × Nat} {Z : Int} {L : Nat} (hbel : Below w.heap.size w w1) (hg : w.heap.size ≤ g)
    (hblk : w1.heap[g]? = some (.cells #[.bool b0, .slice A0 m0 c0] t fr)) (hR : WInt w1 (.agg #[.bool b, .slice A m c]) Z L) :
    WInt ((w1.setCell ⟨g, 0, none⟩ (.bool b)).setCell ⟨g, 1, none⟩ (.slice A m c)) (.agg #[.bool b, .slice A m c]) Z L ∧ Below w.heap.size w ((w1.setCell ⟨g, 0, none⟩ (.bool b)).setCell ⟨g, 1, none⟩ (.slice A m c)) := by
  refine ⟨?_, (hbel.setCell hg _).setCell hg _⟩
  obtain ⟨b', A', m', X, e, h1, h2⟩ := hR
  cases e
  exact ⟨b, A, m, X, rfl, (h1.store hblk (NoInt.two b0 A0 m0 c0)).store (heap_setCell hblk _) ((NoInt.two b0 A0 m0 c0).set 0 (by simp)), h2⟩
theorem sgn_plain (s : Bool) (X : Nat) : sgn s X = sgn (s && decide (0 < X)) X := by
  rcases Nat.eq_zero_or_pos X with h | h
  · subst h; cases s <;> rfl
  · simp [h]
theorem sgn_neg (s : Bool) (X : Nat) : sgn (!s) X = -sgn s X := by
  cases s <;> simp [sgn]
theorem sgn_mul (s t : Bool) (X Y : Nat) : sgn (s != t) (X * Y) = sgn s X * sgn t Y := by
  cases s <;> cases t <;> simp [sgn, Int.neg_mul, Int.mul_neg]
theorem plainw_calls (v : Value) (Z : Int) (L : Nat) (w : World) (h : AInt w v Z L) :
    Calls Tryz.prog 31 #[v] w fun e w' => ∃ v, e = .returned v ∧ WInt w' v Z L ∧ Below w.heap.size w w' := by
  obtain ⟨s, A, n, c, X, rfl, h, hn, rfl⟩ := h
  refine (wplain_calls s A c X n w h).mono ?_
  rintro e w' ⟨m, rfl, hb, hm, hN, hl⟩
  have hpos : 0 < m ↔ 0 < X := ⟨fun h0 => by
    rcases Nat.eq_zero_or_pos X with hx | hx
    · subst hx
      have := hl.uniq (IsLen.zero _)
      omega
    · exact hx, fun h0 => hl.pos h0⟩
  have e : (s && decide (0 < m)) = (s && decide (0 < X)) := by
    congr 1
    by_cases h0 : 0 < X
    · simp [h0, hpos.2 h0]
    · have : ¬ 0 < m := fun h1 => h0 (hpos.1 h1)
      simp [h0, this]
  rw [e]
  exact ⟨_, rfl, ⟨_, A, m, X, rfl, hN.below hb, hl, by omega, sgn_plain s X, by simp⟩, hb⟩
set_option maxRecDepth 100000 in
theorem negw_calls (v : Value) (Z : Int) (L : Nat) (w : World) (h : AInt w v Z L) :
    Calls Tryz.prog 79 #[v] w fun e w' => ∃ v, e = .returned v ∧ WInt w' v (-Z) L ∧ Below w.heap.size w w' := by
  obtain ⟨s, A, n, c, X, rfl, h, hn, rfl⟩ := h
  have H := Lib.hid h
  clear h
  go_enter Tryz.func79, Tryz.ntmps79
  go_wp2_with fail
  have hb0 : Below w.heap.size w ((w.alloc (.cells #[.bool s, .slice A n c] 24)).alloc (.cells #[.bool false, .slice none 0 0] 24)) := ((Below.refl _ w).alloc (Nat.le_refl _) _).alloc (by simp) _
  refine (plainw_calls _ (-sgn s X) L _ ⟨!s, A, n, c, X, rfl, H.out.below hb0, hn, (sgn_neg s X).symm⟩).mono ?_
  rintro e w1 ⟨v1, rfl, hR, hb1⟩
  obtain ⟨b1, A1, m1, rfl⟩ := hR.form
  have hblk : w1.heap[w.heap.size + 1]? = some (.cells #[.bool false, .slice none 0 0] 24 (0, 0)) := (hb1.block _ (by simp)).trans (alloc_at (by simp))
  have hput := Lib.hid (WInt.put (hb0.trans (hb1.mono (by simp; omega))) (by omega) hblk hR)
  obtain ⟨k0, k1, k2, k3⟩ := kept_cells hblk
  obtain ⟨q0, q1⟩ := kept_reads hblk (.bool b1) (.slice A1 m1 m1)
  clear hb0 hb1 hR H hblk
  go_wp2_with fail
  refine bodyPost_ret (v := .agg #[.bool b1, .slice A1 m1 m1]) (by simp [results, Tryz.results79, go_sem, q0, q1]) rfl ?_
  exact ⟨_, rfl, hput.out.1, hput.out.2⟩
set_option maxRecDepth 100000 in
theorem signw_calls (v : Value) (Z : Int) (L : Nat) (w : World) (h : AInt w v Z L) :
    Calls Tryz.prog 26 #[v] w fun e w' => e = .returned (.int .i64 Z.sign) ∧ Below w.heap.size w w' := by
  have h0 := h
  obtain ⟨s, A, n, c, X, rfl, h, hn, rfl⟩ := h
  have H := Lib.hid h0
  obtain ⟨Z, hZ⟩ : ∃ Z, Z = sgn s X := ⟨_, rfl⟩
  rw [← hZ] at H
  rw [← hZ]
  clear h h0 hZ
  go_enter Tryz.func26, Tryz.ntmps26
  go_wp2_with fail
  have hb0 : Below w.heap.size w (w.alloc (.cells #[.bool s, .slice A n c] 24)) := (Below.refl _ w).alloc (Nat.le_refl _) _
  refine (plainw_calls _ Z L _ (H.out.below hb0)).mono ?_
  rintro e w1 ⟨v1, rfl, ⟨b1, A1, m1, X1, rfl, hN, hl, hm, hZ, hp⟩, hb1⟩
  have hblk : w1.heap[w.heap.size]? = some (.cells #[.bool s, .slice A n c] 24 (0, 0)) := (hb1.block _ (by simp)).trans (alloc_at (by simp))
  obtain ⟨k0, k1, k2, k3⟩ := kept_cells hblk
  obtain ⟨q0, q1⟩ := kept_reads hblk (.bool b1) (.slice A1 m1 m1)
  have q0' : ((w1.setCell ⟨w.heap.size, 0, none⟩ (.bool b1)).setCell ⟨w.heap.size, 1, none⟩ (.slice A1 m1 m1)).cell? ⟨w.heap.size, 0, none⟩ = some (.bool b1) := (World.cell?_setCell_other _ _ _ _ (by simp)).trans q0
  have hbE : Hid (Below w.heap.size w ((w1.setCell ⟨w.heap.size, 0, none⟩ (.bool b1)).setCell ⟨w.heap.size, 1, none⟩ (.slice A1 m1 m1))) := ((hb0.trans (hb1.mono (by simp))).setCell (Nat.le_refl _) _).setCell (Nat.le_refl _) _
  cases b1 with
  | true =>
    have hX := hp rfl
    have hm0 : 0 < m1 := hl.pos hX
    have hs : Hid (Z.sign = -1) := by show Z.sign = _; rw [hZ]; exact Int.sign_eq_neg_one_of_neg (by simp [sgn]; omega)
    clear hb0 hb1 H hblk hN hl hZ hp
    go_wp2_with fail
    go_ret
    exact ⟨by rw [hs.out]; rfl, hbE.out⟩
  | false =>
    rcases Nat.eq_zero_or_pos m1 with hm0 | hm0
    · subst hm0
      have hX : X1 = 0 := by have := hl.1; simpa using this
      have hs : Hid (Z.sign = 0) := by show Z.sign = _; rw [hZ, hX]; rfl
      clear hb0 hb1 H hblk hN hl hZ hp
      go_wp2_with fail
      go_ret
      exact ⟨by rw [hs.out]; rfl, hbE.out⟩
    · have hX : 0 < X1 := by
        rcases Nat.eq_zero_or_pos X1 with hx | hx
        · subst hx
          have := hl.uniq (IsLen.zero _)
          omega
        · exact hx
      have hs : Hid (Z.sign = 1) := by show Z.sign = _; rw [hZ]; exact Int.sign_eq_one_of_pos (by simp [sgn]; omega)
      clear hb0 hb1 H hblk hN hl hZ hp
      go_wp2_with fail
      go_ret
      exact ⟨by rw [hs.out]; rfl, hbE.out⟩
/-- What two numbers lie in memory as. -/
theorem two_in (w : World) (s : Bool) (A : Option Addr) (n c : Nat) (s' : Bool) (A' : Option Addr) (n' c' : Nat) (t : TypeId) (o : Obj) :
    (((w.alloc (.cells #[.bool s, .slice A n c] t)).alloc (.cells #[.bool s', .slice A' n' c'] t)).alloc o).heap[w.heap.size]? = some (.cells #[.bool s, .slice A n c] t (0, 0)) ∧
    (((w.alloc (.cells #[.bool s, .slice A n c] t)).alloc (.cells #[.bool s', .slice A' n' c'] t)).alloc o).heap[w.heap.size + 1]? = some (.cells #[.bool s', .slice A' n' c'] t (0, 0)) ∧
    (((w.alloc (.cells #[.bool s, .slice A n c] t)).alloc (.cells #[.bool s', .slice A' n' c'] t)).alloc o).heap[w.heap.size + 1 + 1]? = some o ∧
    Below w.heap.size w (((w.alloc (.cells #[.bool s, .slice A n c] t)).alloc (.cells #[.bool s', .slice A' n' c'] t)).alloc o) ∧
    (((w.alloc (.cells #[.bool s, .slice A n c] t)).alloc (.cells #[.bool s', .slice A' n' c'] t)).alloc o).heap.size = w.heap.size + 3 := by
  refine ⟨?_, ?_, alloc_at (by simp), (((Below.refl _ w).alloc (Nat.le_refl _) _).alloc (by simp) _).alloc (by simp; omega) _, by simp⟩
  · exact ((Below.refl (w.heap.size + 1) _).alloc (by simp <;> omega) _).block _ (by omega) |>.trans ((((Below.refl (w.heap.size + 1) _).alloc (by simp) _).block _ (by omega)).trans (alloc_at rfl))
  · exact (((Below.refl (w.heap.size + 2) _).alloc (by simp) _).block _ (by omega)).trans (alloc_at (by simp))
set_option maxRecDepth 100000 in
theorem mulw_calls (v u : Value) (Y Z : Int) (L M : Nat) (w : World) (h : AInt w v Y L) (k : AInt w u Z M) (hL : L + M ≤ 1024) :
    Calls Tryz.prog 27 #[v, u] w fun e w' => ∃ v, e = .returned (.tuple #[v, .nilIface]) ∧ WInt w' v (Y * Z) (L + M) ∧ Below w.heap.size w w' := by
  obtain ⟨s, A, n, c, X, rfl, h, hn, rfl⟩ := h
  obtain ⟨s', A', n', c', X', rfl, k, hn', rfl⟩ := k
  have H := Lib.hid h
  have K := Lib.hid k
  clear h k
  go_enter Tryz.func27, Tryz.ntmps27
  go_wp2_with fail
  have E := two_in w s A n c s' A' n' c' 24 (.cells #[.bool false, .slice none 0 0] 24)
  generalize (((w.alloc (.cells #[.bool s, .slice A n c] 24)).alloc (.cells #[.bool s', .slice A' n' c'] 24)).alloc (.cells #[.bool false, .slice none 0 0] 24)) = W at *
  obtain ⟨E1, E2, E3, EB, ES⟩ := E
  refine (natMul_calls _ _ X X' n n' _ (H.out.below EB) (K.out.below EB) (fun a b ha hb => by
    have h1 := ha.le H.out.lt
    have h2 := hb.le K.out.lt
    omega)).mono ?_
  rintro e w1 ⟨A1, r, rfl, h1, l1, hb⟩
  have hr : r ≤ n + n' := l1.le (by rw [Nat.pow_add]; exact Nat.mul_lt_mul'' H.out.lt K.out.lt)
  replace E1 := (hb.block _ (by omega)).trans E1
  replace E2 := (hb.block _ (by omega)).trans E2
  replace E3 := (hb.block _ (by omega)).trans E3
  have B1 : Below w.heap.size w w1 := EB.trans (hb.mono (by omega))
  obtain ⟨a0, a1, _, _⟩ := kept_cells E1
  obtain ⟨b0, b1, _, _⟩ := kept_cells E2
  have hs1 := hb.size
  have HN := Lib.hid h1
  have B1' := Lib.hid B1
  have E3' := Lib.hid E3
  clear hb h1 l1 E1 E2 E3 EB B1
  go_wp2_with fail
  refine (plainw_calls _ (sgn s X * sgn s' X') (L + M) _ ⟨s != s', A1, r, r, X * X', rfl, HN.out, by omega, (sgn_mul s s' X X').symm⟩).mono ?_
  rintro e w2 ⟨v2, rfl, hR, hb⟩
  obtain ⟨b2, A2, m2, rfl⟩ := hR.form
  have hblk := (hb.block _ (by omega)).trans E3'.out
  have hput := Lib.hid (WInt.put (B1'.out.trans (hb.mono (by omega))) (by omega) hblk hR)
  obtain ⟨k0, k1, k2, k3⟩ := kept_cells hblk
  obtain ⟨q0, q1⟩ := kept_reads hblk (.bool b2) (.slice A2 m2 m2)
  have q0' : ((w2.setCell ⟨w.heap.size + 1 + 1, 0, none⟩ (.bool b2)).setCell ⟨w.heap.size + 1 + 1, 1, none⟩ (.slice A2 m2 m2)).cell? ⟨w.heap.size + 1 + 1, 0, none⟩ = some (.bool b2) := (World.cell?_setCell_other _ _ _ _ (by simp)).trans q0
  clear hb hR hblk a0 a1 b0 b1
  go_wp2_with fail
  refine bodyPost_ret (v := .tuple #[.agg #[.bool b2, .slice A2 m2 m2], .nilIface]) (by simp [results, Tryz.results27, go_sem, q0, q0', q1]) rfl ?_
  exact ⟨_, rfl, hput.out.1, hput.out.2⟩
end Go.Proofs.YtmobnjlbbhhedaaGreatDoor

set_option linter.unusedVariables false
set_option linter.unusedSimpArgs false
namespace Go.Proofs.YtmobnjlbbhhedaaGreatDoor
open Go.RowKit

theorem sgn_add_same (s : Bool) (X Y : Nat) : sgn s (X + Y) = sgn s X + sgn s Y := by
  cases s <;> simp [sgn]; omega
theorem sgn_sub (s : Bool) {X Y : Nat} (h : Y ≤ X) : sgn s (X - Y) = sgn s X + sgn (!s) Y := by
  cases s <;> simp [sgn] <;> omega
def IsA (Z : Int) (L : Nat) : Value → World → Prop := fun v w => AInt w v Z L
theorem pers_isA (Z : Int) (L : Nat) : Pers (IsA Z L) := fun v w w' h hE => AInt.below h hE
theorem put2 {w : World} {g : Nat} {x y : Value} {t : TypeId} {fr : Nat × Nat} (h : w.heap[g]? = some (.cells #[x, y] t fr)) (u v : Value) :
    ((w.setCell ⟨g, 0, none⟩ u).setCell ⟨g, 1, none⟩ v).heap[g]? = some (.cells #[u, v] t fr) ∧ (∀ g', g' ≠ g → ((w.setCell ⟨g, 0, none⟩ u).setCell ⟨g, 1, none⟩ v).heap[g']? = w.heap[g']?) ∧
    ((w.setCell ⟨g, 0, none⟩ u).setCell ⟨g, 1, none⟩ v).heap.size = w.heap.size := by
  refine ⟨?_, ?_, by simp [World.setCell]⟩
  · rw [heap_setCell (heap_setCell h u) v]
    rfl
  · intro g' hg
    rw [Below.heap_setCell _ _ _ _ (by exact hg), Below.heap_setCell _ _ _ _ (by exact hg)]
theorem Num.put2 {k : IntKind} {B X n g : Nat} {w : World} {v : Value} {b b' : Bool} {A A' : Option Addr} {m c m' c' : Nat} {t : TypeId} {fr : Nat × Nat} (h : Num k B w v X n) (hb : w.heap[g]? = some (.cells #[.bool b, .slice A m c] t fr)) :
    Num k B ((w.setCell ⟨g, 0, none⟩ (.bool b')).setCell ⟨g, 1, none⟩ (.slice A' m' c')) v X n :=
  (h.store hb (NoInt.two _ _ _ _)).store (heap_setCell hb _) ((NoInt.two _ _ _ _).set 0 (by simp))
set_option maxHeartbeats 4000000 in
set_option maxRecDepth 100000 in
theorem addw_calls (v u : Value) (Y Z : Int) (L M : Nat) (w : World) (h : AInt w v Y L) (k : AInt w u Z M) (hL : L ≤ 1024) (hM : M ≤ 1024) :
    Calls Tryz.prog 78 #[v, u] w fun e w' => ∃ v, e = .returned v ∧ WInt w' v (Y + Z) (max L M + 1) ∧ Below w.heap.size w w' := by
  have h0 := h
  have k0 := k
  obtain ⟨s, A, n, c, X, rfl, h, hn, hY⟩ := h
  obtain ⟨s', A', n', c', X', rfl, k, hn', hZ⟩ := k
  have H := Lib.hid h0
  have K := Lib.hid k0
  clear h k h0 k0 hY hZ hn hn' X X'
  go_enter Tryz.func78, Tryz.ntmps78
  go_wp2_with fail
  have E := two_in w s A n c s' A' n' c' 24 (.cells #[.bool false, .slice none 0 0] 24)
  generalize (((w.alloc (.cells #[.bool s, .slice A n c] 24)).alloc (.cells #[.bool s', .slice A' n' c'] 24)).alloc (.cells #[.bool false, .slice none 0 0] 24)) = W at *
  obtain ⟨E1, E2, E3, EB, ES⟩ := E
  obtain ⟨a0, a1, _, _⟩ := kept_cells E1
  obtain ⟨b0, b1, _, _⟩ := kept_cells E2
  refine wp_region_gives0 4 [IsV (.agg #[.bool s, .slice A n c]), IsW Y L, IsV (.agg #[.bool s', .slice A' n' c']), IsW Z M]
    (by kernel_rfl) (by kernel_rfl) rfl ⟨pers_isV _, pers_isW _ _, pers_isV _, pers_isW _ _, trivial⟩ ?_ ?_
  · simp only [List.take_succ_cons, List.take_zero, Obl0, putAll, Act.put, List.setIfInBounds_toArray, List.set_cons_zero, List.set_cons_succ, Nat.reduceAdd]
    refine ⟨?_, ?_, ?_, ?_, trivial⟩
    all_goals
      intro xs w' hE hf K' hK'
      simp only [factsOf, Region.binds, List.getElem?_cons_zero, List.getElem?_cons_succ, IsV, forall_const, true_and, and_true] at hf
    · have c0 := cell_below hE a0
      have c1 := cell_below hE a1
      go_simp
      exact hK'.out _ _ rfl (Ext.refl _)
    · simp only [hf] at hK' ⊢
      go_simp
      refine (plainw_calls _ Y L _ (H.out.below (EB.trans (hE.mono EB.size)))).mono ?_
      rintro e w1 ⟨v1, rfl, hR, hb⟩
      exact hK'.out _ _ hR hb
    · have c0 := cell_below hE b0
      have c1 := cell_below hE b1
      go_simp
      exact hK'.out _ _ rfl (Ext.refl _)
    · simp only [hf] at hK' ⊢
      go_simp
      refine (plainw_calls _ Z M _ (K.out.below (EB.trans (hE.mono EB.size)))).mono ?_
      rintro e w1 ⟨v1, rfl, hR, hb⟩
      exact hK'.out _ _ hR hb
  simp only [List.drop_succ_cons, List.drop_zero, List.take_succ_cons, List.take_zero, putAll, Act.put, List.setIfInBounds_toArray, List.set_cons_zero, List.set_cons_succ, Nat.reduceAdd]
  intro xs w1 hE hf
  simp only [factsAll, IsV, IsW, Nat.reduceAdd] at hf
  obtain ⟨e0, ⟨s1, A1, m1, X1, e1, hN1, hl1, hm1, hZ1, hp1⟩, e2, ⟨s2, A2, m2, X2, e3, hN2, hl2, hm2, hZ2, hp2⟩, _⟩ := hf
  simp only [e0, e1, e2, e3]
  have hs1 := hE.size
  replace E1 := (hE.block _ (by omega)).trans E1
  replace E2 := (hE.block _ (by omega)).trans E2
  replace E3 := (hE.block _ (by omega)).trans E3
  have B1 : Below w.heap.size w w1 := EB.trans (hE.mono (by omega))
  clear hE a0 a1 b0 b1 e0 e1 e2 e3 EB H K
  obtain ⟨ka0, ka1, ka2, ka3⟩ := kept_cells E1
  obtain ⟨P1, P2, P3⟩ := put2 E1 (.bool s1) (.slice A1 m1 m1)
  have hN1' := hN1.put2 (b' := s1) (A' := A1) (m' := m1) (c' := m1) E1
  have hN2' := hN2.put2 (b' := s1) (A' := A1) (m' := m1) (c' := m1) E1
  have B1' : Below w.heap.size w ((w1.setCell ⟨w.heap.size, 0, none⟩ (.bool s1)).setCell ⟨w.heap.size, 1, none⟩ (.slice A1 m1 m1)) := (B1.setCell (Nat.le_refl _) _).setCell (Nat.le_refl _) _
  have E2' := (P2 (w.heap.size + 1) (by omega)).trans E2
  have E3' := (P2 (w.heap.size + 1 + 1) (by omega)).trans E3
  obtain ⟨kb0, kb1, kb2, kb3⟩ := kept_cells E2'
  obtain ⟨Q1, Q2, Q3⟩ := put2 E2' (.bool s2) (.slice A2 m2 m2)
  have HA := Lib.hid (hN1'.put2 (b' := s2) (A' := A2) (m' := m2) (c' := m2) E2')
  have HB := Lib.hid (hN2'.put2 (b' := s2) (A' := A2) (m' := m2) (c' := m2) E2')
  have B2 : Below w.heap.size w ((((w1.setCell ⟨w.heap.size, 0, none⟩ (.bool s1)).setCell ⟨w.heap.size, 1, none⟩ (.slice A1 m1 m1)).setCell ⟨w.heap.size + 1, 0, none⟩ (.bool s2)).setCell ⟨w.heap.size + 1, 1, none⟩ (.slice A2 m2 m2)) := (B1'.setCell (Nat.le_succ _) _).setCell (Nat.le_succ _) _
  have EA := (Q2 w.heap.size (by omega)).trans P1
  have ER := (Q2 (w.heap.size + 1 + 1) (by omega)).trans E3'
  have hsz := Q3.trans (P3.trans rfl)
  have LA := Lib.hid hl1
  have LB := Lib.hid hl2
  clear hN1 hN2 hN1' hN2' E1 E2 E2' E3 E3' B1 B1' P1 P2 Q2 hl1 hl2
  have hstp : Hid (∀ W' : World, W' = ((((w1.setCell ⟨w.heap.size, 0, none⟩ (.bool s1)).setCell ⟨w.heap.size, 1, none⟩ (.slice A1 m1 m1)).setCell ⟨w.heap.size + 1, 0, none⟩ (.bool s2)).setCell ⟨w.heap.size + 1, 1, none⟩ (.slice A2 m2 m2)) → True) := fun _ _ => trivial
  clear hstp
  by_cases hss : s1 = s2
  · subst hss
    have hsb : (s1 == s1) = true := by simp
    have hsum : Hid (sgn s1 (X1 + X2) = Y + Z) := by show _ = _; rw [hZ1, hZ2]; exact sgn_add_same _ _ _
    clear hZ1 hZ2
    go_wp2_with fail
    generalize ((((w1.setCell ⟨w.heap.size, 0, none⟩ (.bool s1)).setCell ⟨w.heap.size, 1, none⟩ (.slice A1 m1 m1)).setCell ⟨w.heap.size + 1, 0, none⟩ (.bool s1)).setCell ⟨w.heap.size + 1, 1, none⟩ (.slice A2 m2 m2)) = W2 at *
    obtain ⟨a0, a1, _, _⟩ := kept_cells EA
    obtain ⟨b0, b1, _, _⟩ := kept_cells Q1
    clear ka0 ka1 ka2 ka3 kb0 kb1 kb2 kb3
    refine wp_region_gives0 9 [IsV (.pointer (some ⟨w.heap.size, 0, none⟩)), IsV (.bool s1), IsV (.pointer (some ⟨w.heap.size, 1, none⟩)), IsV (.slice A1 m1 m1), IsV (.pointer (some ⟨w.heap.size + 1, 1, none⟩)), IsV (.slice A2 m2 m2), IsN .u64 B64 (X1 + X2) (max L M + 1), IsA (Y + Z) (max L M + 1), IsW (Y + Z) (max L M + 1)]
      (by kernel_rfl) (by kernel_rfl) rfl ⟨pers_isV _, pers_isV _, pers_isV _, pers_isV _, pers_isV _, pers_isV _, pers_isN _ _ _ _, pers_isA _ _, pers_isW _ _, trivial⟩ ?_ ?_
    · simp only [List.take_succ_cons, List.take_zero, Obl0, putAll, Act.put, List.setIfInBounds_toArray, List.set_cons_zero, List.set_cons_succ, Nat.reduceAdd]
      refine ⟨?_, ?_, ?_, ?_, ?_, ?_, ?_, ?_, ?_, trivial⟩
      all_goals
        intro xs w' hE hf K' hK'
        simp only [factsOf, Region.binds, List.getElem?_cons_zero, List.getElem?_cons_succ, IsV, forall_const, true_and, and_true] at hf
      · go_simp
        exact hK'.out _ _ rfl (Ext.refl _)
      · have c0 := cell_below hE a0
        simp only [hf] at hK' ⊢
        go_simp
        exact hK'.out _ _ rfl (Ext.refl _)
      · go_simp
        exact hK'.out _ _ rfl (Ext.refl _)
      · have c1 := cell_below hE a1
        simp only [hf] at hK' ⊢
        go_simp
        exact hK'.out _ _ rfl (Ext.refl _)
      · go_simp
        exact hK'.out _ _ rfl (Ext.refl _)
      · have c1 := cell_below hE b1
        simp only [hf] at hK' ⊢
        go_simp
        exact hK'.out _ _ rfl (Ext.refl _)
      · simp only [hf] at hK' ⊢
        go_simp
        refine (natAdd_calls _ _ X1 X2 m1 m2 _ (HA.out.below hE) (HB.out.below hE) (by omega) (by omega)).mono ?_
        rintro e w3 ⟨A3, r3, rfl, h3, l3, hb⟩
        have hr3 := l3.le (add_lt_pow (by decide) LA.out.1 LB.out.1)
        exact hK'.out _ _ ⟨_, _, _, rfl, h3, l3, by omega⟩ hb
      · obtain ⟨f1, A3, n3, c3, f2, h3, l3, hb3⟩ := hf
        simp only [f1, f2] at hK' ⊢
        go_simp
        exact hK'.out _ _ ⟨s1, A3, n3, c3, X1 + X2, rfl, h3, hb3, hsum.out.symm⟩ (Ext.refl _)
      · obtain ⟨⟨t3, A3, n3, c3, X3, f2, h3, hb3, hz3⟩, _⟩ := hf
        simp only [f2] at hK' ⊢
        go_simp
        refine (plainw_calls _ (Y + Z) (max L M + 1) _ ⟨t3, A3, n3, c3, X3, rfl, h3, hb3, hz3⟩).mono ?_
        rintro e w1 ⟨v1, rfl, hR, hb⟩
        exact hK'.out _ _ hR hb
    simp only [List.drop_succ_cons, List.drop_zero, List.take_succ_cons, List.take_zero, putAll, Act.put, List.setIfInBounds_toArray, List.set_cons_zero, List.set_cons_succ, Nat.reduceAdd]
    intro xs w3 hE hf
    simp only [factsAll, IsV, IsW, Nat.reduceAdd] at hf
    obtain ⟨e0, e1, e2, e3, e4, e5, _, _, hR, _⟩ := hf
    obtain ⟨b3, A3, m3, e8⟩ := hR.form
    simp only [e0, e1, e2, e3, e4, e5, e8]
    rw [e8] at hR
    have hblk := (hE.block _ (by omega)).trans ER
    have hput := Lib.hid (WInt.put (B2.trans (hE.mono (by omega))) (by omega) hblk hR)
    obtain ⟨k0, k1, k2, k3⟩ := kept_cells hblk
    obtain ⟨q0, q1⟩ := kept_reads hblk (.bool b3) (.slice A3 m3 m3)
    clear hE hblk hR e0 e1 e2 e3 e4 e5 e8 EA ER Q1 a0 a1 b0 b1
    go_wp2_with fail
    refine bodyPost_ret (v := .agg #[.bool b3, .slice A3 m3 m3]) (by simp [results, Tryz.results78, go_sem, q0, q1]) rfl ?_
    exact ⟨_, rfl, hput.out.1, hput.out.2⟩
  · have hsb : (s1 == s2) = false := by simp [hss]
    have hs2 : s2 = !s1 := by cases s1 <;> cases s2 <;> simp_all
    have hs2' := Lib.hid hs2
    clear hss hs2
    go_wp2_with fail
    generalize ((((w1.setCell ⟨w.heap.size, 0, none⟩ (.bool s1)).setCell ⟨w.heap.size, 1, none⟩ (.slice A1 m1 m1)).setCell ⟨w.heap.size + 1, 0, none⟩ (.bool s2)).setCell ⟨w.heap.size + 1, 1, none⟩ (.slice A2 m2 m2)) = W2 at *
    clear ka0 ka1 ka2 ka3 kb0 kb1 kb2 kb3
    by_cases hle : X2 ≤ X1
    · refine (natSub_calls _ _ X1 X2 m1 m2 _ HA.out HB.out (by omega) (by omega) hle).mono ?_
      rintro e w3 ⟨A3, r3, rfl, h3, l3, hb⟩
      have hr3 : r3 ≤ m1 := l3.le (Nat.lt_of_le_of_lt (Nat.sub_le _ _) LA.out.1)
      have hsum : Hid (sgn s1 (X1 - X2) = Y + Z) := by show _ = _; rw [hZ1, hZ2, hs2'.out]; exact sgn_sub s1 hle
      have EA3 := (hb.block _ (by omega)).trans EA
      have ER3 := (hb.block _ (by omega)).trans ER
      have B3 := B2.trans (hb.mono (by omega))
      have hsz3 := hb.size
      obtain ⟨a0, a1, _, _⟩ := kept_cells EA3
      have H3 := Lib.hid h3
      have ER3' := Lib.hid ER3
      have B3' := Lib.hid B3
      clear hb h3 l3 hle hZ1 hZ2 EA EA3 ER ER3 Q1 B2 B3
      go_wp2_with fail
      refine (plainw_calls _ (Y + Z) (max L M + 1) _ ⟨s1, A3, r3, r3, X1 - X2, rfl, H3.out, by omega, hsum.out.symm⟩).mono ?_
      rintro e w4 ⟨v4, rfl, hR, hb⟩
      obtain ⟨b4, A4, m4, rfl⟩ := hR.form
      have hblk := (hb.block _ (by omega)).trans ER3'.out
      have hput := Lib.hid (WInt.put (B3'.out.trans (hb.mono (by omega))) (by omega) hblk hR)
      obtain ⟨k0, k1, k2, k3⟩ := kept_cells hblk
      obtain ⟨q0, q1⟩ := kept_reads hblk (.bool b4) (.slice A4 m4 m4)
      clear hb hblk hR H3
      go_wp2_with fail
      refine bodyPost_ret (v := .agg #[.bool b4, .slice A4 m4 m4]) (by simp [results, Tryz.results78, go_sem, q0, q1]) rfl ?_
      exact ⟨_, rfl, hput.out.1, hput.out.2⟩
    · refine (natSub_below _ _ X1 X2 m1 m2 _ HA.out HB.out (by omega)).mono ?_
      rintro e w' ⟨rfl, nd, rfl⟩
      have hle2 : X1 ≤ X2 := by omega
      have hsum : Hid (sgn s2 (X2 - X1) = Y + Z) := by
        show _ = _
        rw [hZ1, hZ2, hs2'.out, sgn_sub (!s1) hle2, Bool.not_not, Int.add_comm]
      replace EA : (W2.drewN nd).heap[w.heap.size]? = _ := EA
      replace Q1 : (W2.drewN nd).heap[w.heap.size + 1]? = _ := Q1
      replace ER : (W2.drewN nd).heap[w.heap.size + 1 + 1]? = _ := ER
      replace hsz : (W2.drewN nd).heap.size = _ := hsz
      replace B2 : Below w.heap.size w (W2.drewN nd) := below_drewN B2 nd
      replace HA : Hid (Num .u64 B64 (W2.drewN nd) (.slice A1 m1 m1) X1 m1) := HA.out.drewN nd
      replace HB : Hid (Num .u64 B64 (W2.drewN nd) (.slice A2 m2 m2) X2 m2) := HB.out.drewN nd
      obtain ⟨W3, hW3⟩ : ∃ W3, W3 = W2.drewN nd := ⟨_, rfl⟩
      rw [← hW3] at EA Q1 ER hsz B2 HA HB
      rw [← hW3]
      obtain ⟨a0, a1, a2, a3⟩ := kept_cells EA
      obtain ⟨b0, b1, b2, b3⟩ := kept_cells Q1
      have EA' := Lib.hid EA
      have EB' := Lib.hid Q1
      have ER' := Lib.hid ER
      have BH := Lib.hid B2
      clear hW3 hle hZ1 hZ2 EA Q1 ER B2
      simp only [errN]
      go_wp2_with fail
      refine (natSub_calls _ _ X2 X1 m2 m1 _ HB.out HA.out (by omega) (by omega) hle2).mono ?_
      rintro e w3 ⟨A3, r3, rfl, h3, l3, hb⟩
      have hr3 : r3 ≤ m2 := l3.le (Nat.lt_of_le_of_lt (Nat.sub_le _ _) LB.out.1)
      have EA3 := (hb.block _ (by omega)).trans EA'.out
      have EB3 := (hb.block _ (by omega)).trans EB'.out
      have ER3 := (hb.block _ (by omega)).trans ER'.out
      have B3 := BH.out.trans (hb.mono (by omega))
      have hsz3 := hb.size
      obtain ⟨a0, a1, a2, a3⟩ := kept_cells EA3
      obtain ⟨b0, b1, b2, b3⟩ := kept_cells EB3
      obtain ⟨P1, P2, P3⟩ := put2 EA3 (.bool s2) (.slice A2 m2 m2)
      obtain ⟨q0, q1⟩ := kept_reads EA3 (.bool s2) (.slice A2 m2 m2)
      have q0' : ((w3.setCell ⟨w.heap.size, 0, none⟩ (.bool s2)).setCell ⟨w.heap.size, 1, none⟩ (.slice A2 m2 m2)).cell? ⟨w.heap.size, 0, none⟩ = some (.bool s2) := (World.cell?_setCell_other _ _ _ _ (by simp)).trans q0
      have H3 := Lib.hid (h3.put2 (b' := s2) (A' := A2) (m' := m2) (c' := m2) EA3)
      have ER3' := Lib.hid ((P2 (w.heap.size + 1 + 1) (by omega)).trans ER3)
      have B3' := Lib.hid ((B3.setCell (B := w.heap.size) (Nat.le_refl w.heap.size) (.bool s2) : Below w.heap.size w (w3.setCell ⟨w.heap.size, 0, none⟩ (.bool s2))).setCell (Nat.le_refl w.heap.size) (.slice A2 m2 m2) : Below w.heap.size w ((w3.setCell ⟨w.heap.size, 0, none⟩ (.bool s2)).setCell ⟨w.heap.size, 1, none⟩ (.slice A2 m2 m2)))
      clear hb h3 l3 hle2 EA3 EB3 ER3 B3 P1 P2 HA HB EA' EB' ER' BH
      go_wp2_with fail
      refine (plainw_calls _ (Y + Z) (max L M + 1) _ ⟨s2, A3, r3, r3, X2 - X1, rfl, H3.out, by omega, hsum.out.symm⟩).mono ?_
      rintro e w4 ⟨v4, rfl, hR, hb⟩
      obtain ⟨b4, A4, m4, rfl⟩ := hR.form
      have hblk := (hb.block _ (by omega)).trans ER3'.out
      have hput := Lib.hid (WInt.put (B3'.out.trans (hb.mono (by omega))) (by omega) hblk hR)
      obtain ⟨k0, k1, k2, k3⟩ := kept_cells hblk
      obtain ⟨q0, q1⟩ := kept_reads hblk (.bool b4) (.slice A4 m4 m4)
      clear hb hblk hR H3
      go_wp2_with fail
      refine bodyPost_ret (v := .agg #[.bool b4, .slice A4 m4 m4]) (by simp [results, Tryz.results78, go_sem, q0, q1]) rfl ?_
      exact ⟨_, rfl, hput.out.1, hput.out.2⟩
set_option maxRecDepth 100000 in
theorem subw_calls (v u : Value) (Y Z : Int) (L M : Nat) (w : World) (h : AInt w v Y L) (k : AInt w u Z M) (hL : L ≤ 1024) (hM : M ≤ 1024) :
    Calls Tryz.prog 49 #[v, u] w fun e w' => ∃ v, e = .returned v ∧ WInt w' v (Y - Z) (max L M + 1) ∧ Below w.heap.size w w' := by
  have h0 := h
  have k0 := k
  obtain ⟨s, A, n, c, X, rfl, h, hn, hY⟩ := h
  obtain ⟨s', A', n', c', X', rfl, k, hn', hZ⟩ := k
  have H := Lib.hid h0
  have K := Lib.hid k0
  clear h k h0 k0 hY hZ hn hn' X X'
  go_enter Tryz.func49, Tryz.ntmps49
  go_wp2_with fail
  have E := two_in w s A n c s' A' n' c' 24 (.cells #[.bool false, .slice none 0 0] 24)
  generalize (((w.alloc (.cells #[.bool s, .slice A n c] 24)).alloc (.cells #[.bool s', .slice A' n' c'] 24)).alloc (.cells #[.bool false, .slice none 0 0] 24)) = W at *
  obtain ⟨E1, E2, E3, EB, ES⟩ := E
  obtain ⟨a0, a1, _, _⟩ := kept_cells E1
  obtain ⟨b0, b1, _, _⟩ := kept_cells E2
  refine wp_region_gives0 4 [IsV (.agg #[.bool s, .slice A n c]), IsV (.agg #[.bool s', .slice A' n' c']), IsW (-Z) M, IsW (Y - Z) (max L M + 1)]
    (by kernel_rfl) (by kernel_rfl) rfl ⟨pers_isV _, pers_isV _, pers_isW _ _, pers_isW _ _, trivial⟩ ?_ ?_
  · simp only [List.take_succ_cons, List.take_zero, Obl0, putAll, Act.put, List.setIfInBounds_toArray, List.set_cons_zero, List.set_cons_succ, Nat.reduceAdd]
    refine ⟨?_, ?_, ?_, ?_, trivial⟩
    all_goals
      intro xs w' hE hf K' hK'
      simp only [factsOf, Region.binds, List.getElem?_cons_zero, List.getElem?_cons_succ, IsV, forall_const, true_and, and_true] at hf
    · have c0 := cell_below hE a0
      have c1 := cell_below hE a1
      go_simp
      exact hK'.out _ _ rfl (Ext.refl _)
    · have c0 := cell_below hE b0
      have c1 := cell_below hE b1
      go_simp
      exact hK'.out _ _ rfl (Ext.refl _)
    · simp only [hf] at hK' ⊢
      go_simp
      refine (negw_calls _ Z M _ (K.out.below (EB.trans (hE.mono EB.size)))).mono ?_
      rintro e w1 ⟨v1, rfl, hR, hb⟩
      exact hK'.out _ _ hR hb
    · obtain ⟨f1, f2, _⟩ := hf
      simp only [f1] at hK' ⊢
      go_simp
      refine (addw_calls _ _ Y (-Z) L M _ (H.out.below (EB.trans (hE.mono EB.size))) (WInt.toA f2) hL hM).mono ?_
      rintro e w1 ⟨v1, rfl, hR, hb⟩
      rw [← Int.sub_eq_add_neg] at hR
      exact hK'.out _ _ hR hb
  simp only [List.drop_succ_cons, List.drop_zero, List.take_succ_cons, List.take_zero, putAll, Act.put, List.setIfInBounds_toArray, List.set_cons_zero, List.set_cons_succ, Nat.reduceAdd]
  intro xs w1 hE hf
  simp only [factsAll, IsV, IsW, Nat.reduceAdd] at hf
  obtain ⟨e0, e1, _, hR, _⟩ := hf
  obtain ⟨b3, A3, m3, e3⟩ := hR.form
  simp only [e0, e1, e3]
  rw [e3] at hR
  have hblk := (hE.block _ (by omega)).trans E3
  have hput := Lib.hid (WInt.put (EB.trans (hE.mono (by omega))) (by omega) hblk hR)
  obtain ⟨k0, k1, k2, k3⟩ := kept_cells hblk
  obtain ⟨q0, q1⟩ := kept_reads hblk (.bool b3) (.slice A3 m3 m3)
  clear hE hblk hR e0 e1 e3 E1 E2 E3 a0 a1 b0 b1 EB H K
  go_wp2_with fail
  refine bodyPost_ret (v := .agg #[.bool b3, .slice A3 m3 m3]) (by simp [results, Tryz.results49, go_sem, q0, q1]) rfl ?_
  exact ⟨_, rfl, hput.out.1, hput.out.2⟩
set_option maxRecDepth 100000 in
theorem cmpw_calls (v u : Value) (Y Z : Int) (L M : Nat) (w : World) (h : AInt w v Y L) (k : AInt w u Z M) (hL : L ≤ 1024) (hM : M ≤ 1024) :
    Calls Tryz.prog 28 #[v, u] w fun e w' => e = .returned (.int .i64 (Y - Z).sign) ∧ Below w.heap.size w w' := by
  have h0 := h
  have k0 := k
  obtain ⟨s, A, n, c, X, rfl, h, hn, hY⟩ := h
  obtain ⟨s', A', n', c', X', rfl, k, hn', hZ⟩ := k
  have H := Lib.hid h0
  have K := Lib.hid k0
  clear h k h0 k0 hY hZ hn hn' X X'
  have B0 : Hid (∀ o o', Below w.heap.size w ((w.alloc o).alloc o')) := fun o o' => ((Below.refl _ w).alloc (Nat.le_refl _) _).alloc (by simp) _
  go_enter Tryz.func28, Tryz.ntmps28
  go_wp2_with fail
  refine (subw_calls _ _ Y Z L M _ (H.out.below (B0.out _ _)) (K.out.below (B0.out _ _)) hL hM).mono ?_
  rintro e w1 ⟨v1, rfl, hR, hb⟩
  obtain ⟨b1, A1, m1, rfl⟩ := hR.form
  have B1 : Hid (Below w.heap.size w w1) := (B0.out _ _).trans (hb.mono (by simp; omega))
  have HR := Lib.hid hR
  clear hb hR B0 H K
  go_wp2_with fail
  refine (signw_calls _ (Y - Z) _ _ HR.out.toA).mono ?_
  rintro e w2 ⟨rfl, hb⟩
  have B2 : Hid (Below w.heap.size w w2) := B1.out.trans (hb.mono B1.out.size)
  clear hb
  go_wp2_with fail
  go_ret
  exact ⟨rfl, B2.out⟩
end Go.Proofs.YtmobnjlbbhhedaaGreatDoor
