/- The walks of outriggerref02.Small, outriggerref03.Int, outriggerref04.Same; numbers with a sign, told by their value alone. -/
import Derived.Test.YtmobnjlbbhhedaaGreatDoorRefGm
import Derived.Test.YtmobnjlbbhhedaaGreatDoorRefV
import Derived.Test.YtmobnjlbbhhedaaGreatDoorRefQ
import Derived.Test.YtmobnjlbbhhedaaGreatDoorRto
set_option linter.unusedVariables false
set_option linter.unusedSimpArgs false
namespace Go.Proofs.YtmobnjlbbhhedaaGreatDoor
open Go.RowKit

/-- A number with a sign, without noughts at the top. -/
def CInt (w : World) (v : Value) (Z : Int) (L : Nat) : Prop :=
  ∃ s A n c X, v = .agg #[.bool s, .slice A n c] ∧ Num .u64 B64 w (.slice A n c) X n ∧ IsLen B64 X n ∧ n ≤ L ∧ Z = sgn s X ∧ (s = true → 0 < X)
theorem CInt.below {w w' : World} {v : Value} {Z : Int} {L : Nat} (h : CInt w v Z L) (hb : Below w.heap.size w w') : CInt w' v Z L := by
  obtain ⟨s, A, n, c, X, e, h1, h2⟩ := h
  exact ⟨s, A, n, c, X, e, h1.below hb, h2⟩
theorem CInt.le {w : World} {v : Value} {Z : Int} {L L' : Nat} (h : CInt w v Z L) (hb : L ≤ L') : CInt w v Z L' := by
  obtain ⟨s, A, n, c, X, e, h1, h2, h3, h4⟩ := h
  exact ⟨s, A, n, c, X, e, h1, h2, by omega, h4⟩
theorem CInt.toA {w : World} {v : Value} {Z : Int} {L : Nat} (h : CInt w v Z L) : AInt w v Z L := by
  obtain ⟨s, A, n, c, X, e, h1, h2, h3, h4, h5⟩ := h
  exact ⟨s, A, n, c, X, e, h1, h3, h4⟩
theorem WInt.toC {w : World} {v : Value} {Z : Int} {L : Nat} (h : WInt w v Z L) : CInt w v Z L := by
  obtain ⟨s, A, m, X, e, h1, h2, h3, h4, h5⟩ := h
  exact ⟨s, A, m, m, X, e, h1, h2, h3, h4, h5⟩
theorem CInt.zero (w : World) (L : Nat) : CInt w (.agg #[.bool false, .slice none 0 0]) 0 L :=
  ⟨false, none, 0, 0, 0, rfl, Num.nil .., IsLen.zero _, Nat.zero_le _, rfl, fun h => by cases h⟩
theorem CInt.form {w : World} {v : Value} {Z : Int} {L : Nat} (h : CInt w v Z L) : ∃ b A n c, v = .agg #[.bool b, .slice A n c] := by
  obtain ⟨b, A, n, c, X, e, _⟩ := h
  exact ⟨b, A, n, c, e⟩
def IsC (Z : Int) (L : Nat) : Value → World → Prop := fun v w => CInt w v Z L
theorem pers_isC (Z : Int) (L : Nat) : Pers (IsC Z L) := fun v w w' h hE => CInt.below h hE
/-- A ratio, both parts told by their value. -/
def CRat (w : World) (v : Value) (N D : Int) (L : Nat) : Prop :=
  ∃ s A n c s' A' n' c', v = .agg #[.bool s, .slice A n c, .bool s', .slice A' n' c'] ∧ CInt w (.agg #[.bool s, .slice A n c]) N L ∧ CInt w (.agg #[.bool s', .slice A' n' c']) D L
theorem CRat.below {w w' : World} {v : Value} {N D : Int} {L : Nat} (h : CRat w v N D L) (hb : Below w.heap.size w w') : CRat w' v N D L := by
  obtain ⟨s, A, n, c, s', A', n', c', e, h1, h2⟩ := h
  exact ⟨s, A, n, c, s', A', n', c', e, h1.below hb, h2.below hb⟩
theorem CRat.zero (w : World) (L : Nat) : CRat w (.agg #[.bool false, .slice none 0 0, .bool false, .slice none 0 0]) 0 0 L :=
  ⟨_, _, _, _, _, _, _, _, rfl, CInt.zero w L, CInt.zero w L⟩
def IsCR (N D : Int) (L : Nat) : Value → World → Prop := fun v w => CRat w v N D L
theorem pers_isCR (N D : Int) (L : Nat) : Pers (IsCR N D L) := fun v w w' h hE => CRat.below h hE

theorem fromz_calls (v : Value) (Z : Int) (L : Nat) (w : World) (h : AInt w v Z L) (hL : L ≤ 5000) :
    Calls Tryz.prog 11 #[v] w fun e w' => ∃ v, e = .returned v ∧ RNum w' v Z (4 * L) ∧ Below w.heap.size w w' := by
  obtain ⟨s, A, n, c, X, rfl, h, hn, rfl⟩ := h
  refine (from_calls s A n c X w h (by omega)).mono ?_
  rintro e w' ⟨v, rfl, hR, hb⟩
  exact ⟨v, rfl, hR.le (by omega), hb⟩
theorem toz_calls (v : Value) (Z : Int) (L : Nat) (w : World) (h : RNum w v Z L) (hL : L ≤ 40000) :
    Calls Tryz.prog 14 #[v] w fun e w' => ∃ v, e = .returned v ∧ CInt w' v Z L ∧ Below w.heap.size w w' := by
  obtain ⟨s, A, n, c, X, rfl, h, hl, hn, hZ, hp⟩ := h
  refine (to_calls s A n c X w h hl (by omega)).mono ?_
  rintro e w' ⟨A', t, c', rfl, h1, h2, hb⟩
  have ht := h2.le (show X < B64 ^ n from Nat.lt_of_lt_of_le hl.1 (Nat.pow_le_pow_left (by decide) _))
  exact ⟨_, rfl, ⟨s, A', t, c', X, rfl, h1, h2, by omega, hZ, hp⟩, hb⟩
theorem sgn_inj {s t : Bool} {X Y : Nat} (h : sgn s X = sgn t Y) (h1 : s = true → 0 < X) (h2 : t = true → 0 < Y) : s = t ∧ X = Y := by
  cases s <;> cases t <;> simp [sgn] at h h1 h2 ⊢ <;> omega
theorem samez_calls (v u : Value) (Y Z : Int) (L M : Nat) (w : World) (h : CInt w v Y L) (k : CInt w u Z M) :
    Calls Tryz.prog 23 #[v, u] w fun e w' => ∃ b, e = .returned (.bool b) ∧ (b = true ↔ Y = Z) ∧ Below w.heap.size w w' := by
  obtain ⟨s, A, n, c, X, rfl, h, hl, hn, hY, hp⟩ := h
  obtain ⟨s', A', n', c', X', rfl, k, kl, kn, hZ, kp⟩ := k
  refine (same2_calls s A n c X s' A' n' c' X' w h k).mono ?_
  rintro e w' ⟨b, rfl, hb, hB⟩
  refine ⟨b, rfl, ?_, hB⟩
  rw [hb, hY, hZ]
  constructor
  · rintro ⟨rfl, _, rfl⟩; rfl
  · intro e
    obtain ⟨rfl, rfl⟩ := sgn_inj e hp kp
    exact ⟨rfl, hl.uniq kl, rfl⟩
theorem litR (w : World) (o : Obj) (x : Nat) (hx : x < B64) : Num .u64 B64 ((w.alloc o).alloc (.cells #[.int .u64 x] 79)) (.slice (some ⟨w.heap.size + 1, 0, none⟩) 1 1) x 1 :=
  Num.one hx (by rw [World.cell?_alloc_at _ _ _ _ (by simp)]; rfl)
set_option maxRecDepth 100000 in
theorem small6_calls (w : World) :
    Calls Tryz.prog 22 #[.int .i64 6] w fun e w' => ∃ v, e = .returned v ∧ RNum w' v 6 4 ∧ Below w.heap.size w w' := by
  have B0 : Hid (∀ o o', Below w.heap.size w ((w.alloc o).alloc o')) := fun o o' => ((Below.refl _ w).alloc (Nat.le_refl _) _).alloc (by simp) _
  have R0 : Hid (∀ o', ((w.alloc (.cells #[.bool false, .slice none 0 0] 36)).alloc o').heap[w.heap.size]? = some (.cells #[.bool false, .slice none 0 0] 36 (0, 0))) := fun o' => (((Below.refl (w.heap.size + 1) _).alloc (by simp) _).block _ (by omega)).trans (alloc_at rfl)
  go_enter Tryz.func22, Tryz.ntmps22
  go_wp2_with fail
  refine (digits_calls _ 6 1 _ (litR w _ 6 (by decide)) (by omega)).mono ?_
  rintro e w1 ⟨A, m, c, rfl, h1, l1, hm, hb⟩
  have hR := (hb.block _ (by simp; omega)).trans (R0.out _)
  have B1 := Lib.hid (below_next' (B0.out _ _) hb)
  have hsz : w.heap.size < w1.heap.size := by have := hb.size; simp at this; omega
  clear hb B0 R0
  go_wp2_with fail
  refine (new_calls false _ 6 m _ h1).mono ?_
  rintro e w2 ⟨v, rfl, hv, hb⟩
  obtain ⟨b3, A3, m3, c3, rfl⟩ := hv.form
  have hblk := (hb.block _ hsz).trans hR
  have hput := Lib.hid (RNum.put (below_next' B1.out hb) (Nat.le_refl _) hblk (hv.le (by omega)))
  obtain ⟨k0, k1, k2, k3⟩ := kept_cells hblk
  obtain ⟨q0, q1⟩ := kept_reads hblk (.bool b3) (.slice A3 m3 c3)
  clear hb hv hblk hR h1 l1
  go_wp2_with fail
  refine bodyPost_ret (v := .agg #[.bool b3, .slice A3 m3 c3]) (by simp [results, Tryz.results22, go_sem, q0, q1]) rfl ?_
  exact ⟨_, rfl, hput.out.1, hput.out.2⟩
set_option maxRecDepth 100000 in
theorem small4_calls (w : World) :
    Calls Tryz.prog 22 #[.int .i64 (-4)] w fun e w' => ∃ v, e = .returned v ∧ RNum w' v (-4) 6 ∧ Below w.heap.size w w' := by
  have B0 : Hid (∀ o o', Below w.heap.size w ((w.alloc o).alloc o')) := fun o o' => ((Below.refl _ w).alloc (Nat.le_refl _) _).alloc (by simp) _
  have R0 : Hid (∀ o', ((w.alloc (.cells #[.bool false, .slice none 0 0] 36)).alloc o').heap[w.heap.size]? = some (.cells #[.bool false, .slice none 0 0] 36 (0, 0))) := fun o' => (((Below.refl (w.heap.size + 1) _).alloc (by simp) _).block _ (by omega)).trans (alloc_at rfl)
  go_enter Tryz.func22, Tryz.ntmps22
  go_wp2_with fail
  refine (digits_calls _ 3 1 _ (litR w _ 3 (by decide)) (by omega)).mono ?_
  rintro e w1 ⟨A, m, c, rfl, h1, l1, hm, hb⟩
  have hR := (hb.block _ (by simp; omega)).trans (R0.out _)
  have B1 := Lib.hid (below_next' (B0.out _ _) hb)
  have hsz : w.heap.size < w1.heap.size := by have := hb.size; simp at this; omega
  have Ba : Hid (∀ o, Below w1.heap.size w1 (w1.alloc o)) := fun o => (Below.refl _ _).alloc (Nat.le_refl _) _
  clear hb B0 R0
  go_wp2_with fail
  refine (refAdd_calls _ _ 3 1 m 1 _ (h1.below (Ba.out _)) (lit16 w1 1 (by decide)) (by omega) (by omega)).mono ?_
  rintro e w2 ⟨A2, r2, c2, rfl, h2, l2, hb⟩
  have hr2 : r2 ≤ 6 := l2.le (by decide)
  have hb2 : Below w1.heap.size w1 w2 := (Ba.out _).trans (hb.mono (by simp))
  have B2 := Lib.hid (below_next' B1.out hb2)
  have hR2 := (hb2.block _ hsz).trans hR
  have hsz2 : w.heap.size < w2.heap.size := Nat.lt_of_lt_of_le hsz hb2.size
  clear hb hb2 hR B1 h1 l1 Ba
  go_wp2_with fail
  refine (new_calls true _ (3 + 1) r2 _ h2).mono ?_
  rintro e w3 ⟨v, rfl, hv, hb⟩
  obtain ⟨b3, A3, m3, c3, rfl⟩ := hv.form
  have hblk := (hb.block _ hsz2).trans hR2
  have hput := Lib.hid (RNum.put (below_next' B2.out hb) (Nat.le_refl _) hblk (hv.le hr2))
  obtain ⟨k0, k1, k2, k3⟩ := kept_cells hblk
  obtain ⟨q0, q1⟩ := kept_reads hblk (.bool b3) (.slice A3 m3 c3)
  clear hb hv hblk hR2 h2 l2
  go_wp2_with fail
  refine bodyPost_ret (v := .agg #[.bool b3, .slice A3 m3 c3]) (by simp [results, Tryz.results22, go_sem, q0, q1]) rfl ?_
  exact ⟨_, rfl, hput.out.1, hput.out.2⟩
/-- What a canonical number becomes where it is put. -/
theorem CInt.put {w w1 : World} {g : Nat} {b0 b : Bool} {A0 A : Option Addr} {m0 c0 m c : Nat} {t : TypeId} {fr : Nat × Nat} {Z : Int} {L : Nat} (hbel : Below w.heap.size w w1) (hg : w.heap.size ≤ g)
    (hblk : w1.heap[g]? = some (.cells #[.bool b0, .slice A0 m0 c0] t fr)) (hR : CInt w1 (.agg #[.bool b, .slice A m c]) Z L) :
    CInt ((w1.setCell ⟨g, 0, none⟩ (.bool b)).setCell ⟨g, 1, none⟩ (.slice A m c)) (.agg #[.bool b, .slice A m c]) Z L ∧ Below w.heap.size w ((w1.setCell ⟨g, 0, none⟩ (.bool b)).setCell ⟨g, 1, none⟩ (.slice A m c)) := by
  refine ⟨?_, (hbel.setCell hg _).setCell hg _⟩
  obtain ⟨b', A', m', c', X, e, h1, h2⟩ := hR
  cases e
  exact ⟨b, A, m, c, X, rfl, (h1.store hblk (NoInt.two b0 A0 m0 c0)).store (heap_setCell hblk _) ((NoInt.two b0 A0 m0 c0).set 0 (by simp)), h2⟩
set_option maxRecDepth 100000 in
theorem int_calls (d : Value) (X n : Nat) (w : World) (h : Num .u32 B16 w d X n) (hn : n ≤ 20000) :
    Calls Tryz.prog 40 #[d] w fun e w' => ∃ v, e = .returned v ∧ CInt w' v (X : Int) n ∧ Below w.heap.size w w' := by
  have H := Lib.hid h
  clear h
  have B0 : Hid (∀ o, Below w.heap.size w (w.alloc o)) := fun o => (Below.refl _ w).alloc (Nat.le_refl _) _
  have R0 := alloc_at (w := w) (o := .cells #[.bool false, .slice none 0 0] 24) rfl
  have R0H := Lib.hid R0
  clear R0
  go_enter Tryz.func40, Tryz.ntmps40
  go_wp2_with fail
  refine (new_calls false _ X n _ (H.out.below (B0.out _))).mono ?_
  rintro e w1 ⟨v, rfl, hv, hb⟩
  have HV : Hid (RNum w1 v (X : Int) n) := hv
  have hR := (hb.block _ (by simp)).trans R0H.out
  have B1 := Lib.hid (below_next' (B0.out _) hb)
  have hsz : w.heap.size < w1.heap.size := by have := hb.size; simp at this; omega
  clear hb hv B0 R0H
  go_wp2_with fail
  refine (toz_calls _ _ n _ HV.out (by omega)).mono ?_
  rintro e w2 ⟨v2, rfl, hv, hb⟩
  obtain ⟨b3, A3, m3, c3, rfl⟩ := hv.form
  have hblk := (hb.block _ hsz).trans hR
  have hput := Lib.hid (CInt.put (below_next' B1.out hb) (Nat.le_refl _) hblk hv)
  obtain ⟨k0, k1, k2, k3⟩ := kept_cells hblk
  obtain ⟨q0, q1⟩ := kept_reads hblk (.bool b3) (.slice A3 m3 c3)
  clear hb hv hblk hR
  go_wp2_with fail
  refine bodyPost_ret (v := .agg #[.bool b3, .slice A3 m3 c3]) (by simp [results, Tryz.results40, go_sem, q0, q1]) rfl ?_
  exact ⟨_, rfl, hput.out.1, hput.out.2⟩
set_option maxRecDepth 100000 in
theorem same4_calls (v u : Value) (N D N' D' : Int) (L M : Nat) (w : World) (h : CRat w v N D L) (k : CRat w u N' D' M) :
    Calls Tryz.prog 10 #[v, u] w fun e w' => ∃ b, e = .returned (.bool b) ∧ (b = true ↔ N = N' ∧ D = D') ∧ Below w.heap.size w w' := by
  obtain ⟨s, A, n, c, s', A', n', c', rfl, h1, h2⟩ := h
  obtain ⟨t, C, m, d, t', C', m', d', rfl, k1, k2⟩ := k
  have H1 := Lib.hid h1
  have H2 := Lib.hid h2
  have K1 := Lib.hid k1
  have K2 := Lib.hid k2
  clear h1 h2 k1 k2
  have B0 : Hid (∀ o o', Below w.heap.size w ((w.alloc o).alloc o')) := fun o o' => ((Below.refl _ w).alloc (Nat.le_refl _) _).alloc (by simp) _
  have CA : Hid (∀ ty o, (((w.alloc (.cells #[.bool s, .slice A n c, .bool s', .slice A' n' c'] ty)).alloc o).heap[w.heap.size]? = some (.cells #[.bool s, .slice A n c, .bool s', .slice A' n' c'] ty (0, 0)))) := fun ty o => (((Below.refl (w.heap.size + 1) _).alloc (by simp) _).block _ (by omega)).trans (alloc_at rfl)
  have CB : Hid (∀ o ty, (((w.alloc o).alloc (.cells #[.bool t, .slice C m d, .bool t', .slice C' m' d'] ty)).heap[w.heap.size + 1]? = some (.cells #[.bool t, .slice C m d, .bool t', .slice C' m' d'] ty (0, 0)))) := fun o ty => alloc_at (by simp)
  go_enter Tryz.func10, Tryz.ntmps10
  go_wp2_with fail
  refine (samez_calls _ _ N N' L M _ (H1.out.below (B0.out _ _)) (K1.out.below (B0.out _ _))).mono ?_
  rintro e w1 ⟨b1, rfl, hb1, hb⟩
  have B1 := Lib.hid (below_next' (B0.out _ _) hb)
  obtain ⟨⟨a0, a1, a2, a3⟩, _⟩ := kept4 ((hb.block _ (by simp; omega)).trans (CA.out _ _))
  obtain ⟨⟨c0, c1, c2, c3⟩, _⟩ := kept4 ((hb.block _ (by simp)).trans (CB.out _ _))
  have P1 := Lib.hid hb1
  clear hb hb1 B0 CA CB H1 K1
  cases b1 with
  | false =>
    go_wp2_with fail
    go_ret
    have hne : ¬ N = N' := by simpa using P1.out
    exact ⟨false, rfl, ⟨fun h => (by cases h), fun h => absurd h.1 hne⟩, B1.out⟩
  | true =>
    go_wp2_with fail
    refine (samez_calls _ _ D D' L M _ (H2.out.below B1.out) (K2.out.below B1.out)).mono ?_
    rintro e w2 ⟨b2, rfl, hb2, hb⟩
    have B2 := Lib.hid (below_next' B1.out hb)
    have P2 := Lib.hid hb2
    clear hb hb2 B1
    go_wp2_with fail
    go_ret
    have heq : N = N' := by simpa using P1.out
    exact ⟨b2, rfl, by rw [P2.out]; exact ⟨fun h => ⟨heq, h⟩, fun h => h.2⟩, B2.out⟩
end Go.Proofs.YtmobnjlbbhhedaaGreatDoor

set_option linter.unusedVariables false
set_option linter.unusedSimpArgs false
namespace Go.Proofs.YtmobnjlbbhhedaaGreatDoor
open Go.RowKit

theorem RNum.flag {w : World} {b : Bool} {A : Option Addr} {m c : Nat} {Z : Int} {L : Nat} (h : RNum w (.agg #[.bool b, .slice A m c]) Z L) : b = decide (Z < 0) := by
  obtain ⟨b', A', m', c', X, e, _, _, _, hZ, hp⟩ := h
  cases e
  cases b with
  | false => simp at hZ; simp; omega
  | true => have := hp rfl; simp at hZ; simp; omega
set_option maxHeartbeats 8000000 in
set_option maxRecDepth 100000 in
theorem refRcmp_calls (s : Bool) (A : Option Addr) (n c X : Nat) (s' : Bool) (A' : Option Addr) (n' c' X' : Nat) (t : Bool) (C : Option Addr) (m d U : Nat) (t' : Bool) (C' : Option Addr) (m' d' U' : Nat) (w : World) (h : Num .u64 B64 w (.slice A n c) X n) (k : Num .u64 B64 w (.slice A' n' c') X' n')
    (h2 : Num .u64 B64 w (.slice C m d) U m) (k2 : Num .u64 B64 w (.slice C' m' d') U' m') (b1 : n ≤ 100) (b2 : n' ≤ 100) (b3 : m ≤ 100) (b4 : m' ≤ 100) (hX : 0 < X') (hU : 0 < U') :
    Calls Tryz.prog 16 #[.agg #[.bool s, .slice A n c, .bool s', .slice A' n' c'], .agg #[.bool t, .slice C m d, .bool t', .slice C' m' d']] w fun e w' =>
      e = .returned (.int .i64 (cmpQ (sgn s X) (sgn s' X') (sgn t U) (sgn t' U'))) ∧ Below w.heap.size w w' := by
  have H := Lib.hid h
  have K := Lib.hid k
  have H2 := Lib.hid h2
  have K2 := Lib.hid k2
  clear h k h2 k2
  obtain ⟨x, hx⟩ : ∃ x, x = sgn s X := ⟨_, rfl⟩
  obtain ⟨y, hy⟩ : ∃ y, y = sgn s' X' := ⟨_, rfl⟩
  obtain ⟨u, hu⟩ : ∃ u, u = sgn t U := ⟨_, rfl⟩
  obtain ⟨v, hv⟩ : ∃ v, v = sgn t' U' := ⟨_, rfl⟩
  have hy0 : y ≠ 0 := by rw [hy]; cases s' <;> simp [sgn] <;> omega
  have hv0 : v ≠ 0 := by rw [hv]; cases t' <;> simp [sgn] <;> omega
  rw [← hx, ← hy, ← hu, ← hv]
  have AX : Hid (∀ w', Below w.heap.size w w' → AInt w' (.agg #[.bool s, .slice A n c]) x 100) := fun w' hb => by rw [hx]; exact (AInt.mk (H.out.below hb)).le b1
  have AY : Hid (∀ w', Below w.heap.size w w' → AInt w' (.agg #[.bool s', .slice A' n' c']) y 100) := fun w' hb => by rw [hy]; exact (AInt.mk (K.out.below hb)).le b2
  have AU : Hid (∀ w', Below w.heap.size w w' → AInt w' (.agg #[.bool t, .slice C m d]) u 100) := fun w' hb => by rw [hu]; exact (AInt.mk (H2.out.below hb)).le b3
  have AV : Hid (∀ w', Below w.heap.size w w' → AInt w' (.agg #[.bool t', .slice C' m' d']) v 100) := fun w' hb => by rw [hv]; exact (AInt.mk (K2.out.below hb)).le b4
  clear hx hy hu hv hX hU H K H2 K2
  have B0 : Hid (∀ o o', Below w.heap.size w ((w.alloc o).alloc o')) := fun o o' => ((Below.refl _ w).alloc (Nat.le_refl _) _).alloc (by simp) _
  have CA : Hid (∀ ty o, (((w.alloc (.cells #[.bool s, .slice A n c, .bool s', .slice A' n' c'] ty)).alloc o).heap[w.heap.size]? = some (.cells #[.bool s, .slice A n c, .bool s', .slice A' n' c'] ty (0, 0)))) := fun ty o => (((Below.refl (w.heap.size + 1) _).alloc (by simp) _).block _ (by omega)).trans (alloc_at rfl)
  have CB : Hid (∀ o ty, (((w.alloc o).alloc (.cells #[.bool t, .slice C m d, .bool t', .slice C' m' d'] ty)).heap[w.heap.size + 1]? = some (.cells #[.bool t, .slice C m d, .bool t', .slice C' m' d'] ty (0, 0)))) := fun o ty => alloc_at (by simp)
  obtain ⟨q, hq⟩ : ∃ q, q = cmpQ x y u v := ⟨_, rfl⟩
  obtain ⟨zc, hzc⟩ : ∃ zc, zc = (if x * v - u * y < 0 then -1 else if x * v - u * y = 0 then (0 : Int) else 1) := ⟨_, rfl⟩
  have hzs : zc = (x * v - u * y).sign := by rw [hzc]; exact sign_if _
  have hq1 : decide (y < 0) = decide (v < 0) → q = zc := by
    intro e
    rw [hq, hzs]
    unfold cmpQ
    rcases Int.lt_trichotomy y 0 with h | h | h <;> rcases Int.lt_trichotomy v 0 with k | k | k
    · rw [Int.sign_eq_neg_one_of_neg h, Int.sign_eq_neg_one_of_neg k]; simp
    · exact absurd k hv0
    · simp [h] at e; omega
    · exact absurd h hy0
    · exact absurd h hy0
    · exact absurd h hy0
    · simp [k] at e; omega
    · exact absurd k hv0
    · rw [Int.sign_eq_one_of_pos h, Int.sign_eq_one_of_pos k]; simp
  have hq2 : ¬ decide (y < 0) = decide (v < 0) → q = -zc := by
    intro e
    rw [hq, hzs]
    unfold cmpQ
    rcases Int.lt_trichotomy y 0 with h | h | h <;> rcases Int.lt_trichotomy v 0 with k | k | k
    · exact absurd (by simp [h, k]) e
    · exact absurd k hv0
    · rw [Int.sign_eq_neg_one_of_neg h, Int.sign_eq_one_of_pos k]; simp
    · exact absurd h hy0
    · exact absurd h hy0
    · exact absurd h hy0
    · rw [Int.sign_eq_one_of_pos h, Int.sign_eq_neg_one_of_neg k]; simp
    · exact absurd k hv0
    · have h1 : ¬ y < 0 := by omega
      have h2 : ¬ v < 0 := by omega
      exact absurd (by simp [h1, h2]) e
  have hzr : -1 ≤ zc ∧ zc ≤ 1 := by
    rw [hzs]
    rcases sign_three (x * v - u * y) with h | h | h <;> rw [h] <;> omega
  rw [← hq]
  have cc := Lib.hid (fun w v1 u1 h k => cmpz_calls v1 u1 (x * v) (u * y) 800 800 w h k (by omega) (by omega))
  rw [← hzc] at cc
  have Q1 := Lib.hid hq1
  have Q2 := Lib.hid hq2
  clear hq hzc hzs hq1 hq2 hy0 hv0
  go_enter Tryz.func16, Tryz.ntmps16
  go_wp2_with fail
  have hblkA := CA.out 26 (.cells #[.bool t, .slice C m d, .bool t', .slice C' m' d'] 26)
  have hblkB := CB.out (.cells #[.bool s, .slice A n c, .bool s', .slice A' n' c'] 26) 26
  have EB := B0.out (.cells #[.bool s, .slice A n c, .bool s', .slice A' n' c'] 26) (.cells #[.bool t, .slice C m d, .bool t', .slice C' m' d'] 26)
  generalize ((w.alloc (.cells #[.bool s, .slice A n c, .bool s', .slice A' n' c'] 26)).alloc (.cells #[.bool t, .slice C m d, .bool t', .slice C' m' d'] 26)) = W at *
  obtain ⟨⟨a0, a1, a2, a3⟩, _⟩ := kept4 hblkA
  obtain ⟨⟨c0, c1, c2, c3⟩, _⟩ := kept4 hblkB
  clear CA CB B0 hblkA hblkB
  refine wp_region_gives0 8 [IsV (.pointer (some ⟨w.heap.size, 0, none⟩)), IsV (.agg #[.bool s, .slice A n c]), IsR x 400, IsV (.pointer (some ⟨w.heap.size + 1, 2, none⟩)), IsV (.agg #[.bool t', .slice C' m' d']), IsR v 400, IsR (x * v) 800, NewB W.heap.size 36 #[.bool false, .slice none 0 0]]
    (by kernel_rfl) (by kernel_rfl) rfl ⟨pers_isV _, pers_isV _, pers_isR _ _, pers_isV _, pers_isV _, pers_isR _ _, pers_isR _ _, pers_new _ _ _, trivial⟩ ?_ ?_
  · simp only [List.take_succ_cons, List.take_zero, Obl0, putAll, Act.put, List.setIfInBounds_toArray, List.set_cons_zero, List.set_cons_succ, Nat.reduceAdd]
    refine ⟨?_, ?_, ?_, ?_, ?_, ?_, ?_, ?_, trivial⟩
    all_goals
      intro xs w' hE hf K' hK'
      simp only [factsOf, Region.binds, List.getElem?_cons_zero, List.getElem?_cons_succ, IsV, IsR, forall_const, true_and, and_true] at hf
    · go_simp
      exact hK'.out _ _ rfl (Ext.refl _)
    · have f0 := cell_below hE a0
      have f1 := cell_below hE a1
      simp only [hf] at hK' ⊢
      go_simp
      exact hK'.out _ _ rfl (Ext.refl _)
    · simp only [hf] at hK' ⊢
      go_simp
      refine (fromz_calls _ x 100 _ (AX.out _ (below_next' EB hE)) (by omega)).mono ?_
      rintro e w1 ⟨v1, rfl, hR, hb⟩
      exact hK'.out _ _ hR hb
    · go_simp
      exact hK'.out _ _ rfl (Ext.refl _)
    · have f0 := cell_below hE c2
      have f1 := cell_below hE c3
      simp only [hf] at hK' ⊢
      go_simp
      exact hK'.out _ _ rfl (Ext.refl _)
    · obtain ⟨f1, f2⟩ := hf
      simp only [f1] at hK' ⊢
      go_simp
      refine (fromz_calls _ v 100 _ (AV.out _ (below_next' EB hE)) (by omega)).mono ?_
      rintro e w1 ⟨v1, rfl, hR, hb⟩
      exact hK'.out _ _ hR hb
    · obtain ⟨f1, f2, _⟩ := hf
      go_simp
      refine (mulz_calls _ _ x v 400 400 _ f1 f2 (by omega) (by omega)).mono ?_
      rintro e w1 ⟨v1, rfl, hR, hb⟩
      exact hK'.out _ _ hR hb
    · go_simp
      exact hK'.out _ _ ⟨_, rfl, hE.size, alloc_at rfl⟩ (Ext.alloc _ _)
  simp only [List.drop_succ_cons, List.drop_zero, List.take_succ_cons, List.take_zero, putAll, Act.put, List.setIfInBounds_toArray, List.set_cons_zero, List.set_cons_succ, Nat.reduceAdd]
  intro xs w1 hE hf
  simp only [factsAll, IsV, IsR, NewB, Nat.reduceAdd] at hf
  obtain ⟨e0, e1, _, e3, e4, _, R6, ⟨g1, e7, hg, hblk⟩, _⟩ := hf
  obtain ⟨s1, A1, m1, d1, e6⟩ := R6.form
  simp only [e0, e1, e3, e4, e6, e7]
  rw [e6] at R6
  have hput := RNum.put hE hg hblk R6
  obtain ⟨k0, k1, k2, k3⟩ := kept_cells hblk
  have kr := kept_reads hblk (.bool s1) (.slice A1 m1 d1)
  have kw : ((w1.setCell ⟨g1, 0, none⟩ (.bool s1)).setCell ⟨g1, 1, none⟩ (.slice A1 m1 d1)).cell? ⟨g1, 0, none⟩ = some (.bool s1) := by
    rw [World.cell?_setCell_other _ _ _ _ (by simp)]
    exact kr.1
  have kw2 := kr.2
  clear hE hblk R6 e0 e1 e3 e4 e6 e7 kr
  obtain ⟨X1, hE⟩ := hput
  go_wp2_with fail
  clear k0 k1 k2 k3
  generalize (w1.setCell ⟨g1, 0, none⟩ (.bool s1)).setCell ⟨g1, 1, none⟩ (.slice A1 m1 d1) = W1 at *
  replace EB := below_next' EB hE
  replace a0 := cell_below hE a0
  replace a1 := cell_below hE a1
  replace a2 := cell_below hE a2
  replace a3 := cell_below hE a3
  replace c0 := cell_below hE c0
  replace c1 := cell_below hE c1
  replace c2 := cell_below hE c2
  replace c3 := cell_below hE c3
  replace X1 := Lib.hid X1
  clear hE hg
  refine wp_region_gives0 8 [IsV (.pointer (some ⟨w.heap.size + 1, 0, none⟩)), IsV (.agg #[.bool t, .slice C m d]), IsR u 400, IsV (.pointer (some ⟨w.heap.size, 2, none⟩)), IsV (.agg #[.bool s', .slice A' n' c']), IsR y 400, IsR (u * y) 800, NewB W1.heap.size 36 #[.bool false, .slice none 0 0]]
    (by kernel_rfl) (by kernel_rfl) rfl ⟨pers_isV _, pers_isV _, pers_isR _ _, pers_isV _, pers_isV _, pers_isR _ _, pers_isR _ _, pers_new _ _ _, trivial⟩ ?_ ?_
  · simp only [List.take_succ_cons, List.take_zero, Obl0, putAll, Act.put, List.setIfInBounds_toArray, List.set_cons_zero, List.set_cons_succ, Nat.reduceAdd]
    refine ⟨?_, ?_, ?_, ?_, ?_, ?_, ?_, ?_, trivial⟩
    all_goals
      intro xs w' hE hf K' hK'
      simp only [factsOf, Region.binds, List.getElem?_cons_zero, List.getElem?_cons_succ, IsV, IsR, forall_const, true_and, and_true] at hf
    · go_simp
      exact hK'.out _ _ rfl (Ext.refl _)
    · have f0 := cell_below hE c0
      have f1 := cell_below hE c1
      simp only [hf] at hK' ⊢
      go_simp
      exact hK'.out _ _ rfl (Ext.refl _)
    · simp only [hf] at hK' ⊢
      go_simp
      refine (fromz_calls _ u 100 _ (AU.out _ (below_next' EB hE)) (by omega)).mono ?_
      rintro e w1 ⟨v1, rfl, hR, hb⟩
      exact hK'.out _ _ hR hb
    · go_simp
      exact hK'.out _ _ rfl (Ext.refl _)
    · have f0 := cell_below hE a2
      have f1 := cell_below hE a3
      simp only [hf] at hK' ⊢
      go_simp
      exact hK'.out _ _ rfl (Ext.refl _)
    · obtain ⟨f1, f2⟩ := hf
      simp only [f1] at hK' ⊢
      go_simp
      refine (fromz_calls _ y 100 _ (AY.out _ (below_next' EB hE)) (by omega)).mono ?_
      rintro e w1 ⟨v1, rfl, hR, hb⟩
      exact hK'.out _ _ hR hb
    · obtain ⟨f1, f2, _⟩ := hf
      go_simp
      refine (mulz_calls _ _ u y 400 400 _ f1 f2 (by omega) (by omega)).mono ?_
      rintro e w1 ⟨v1, rfl, hR, hb⟩
      exact hK'.out _ _ hR hb
    · go_simp
      exact hK'.out _ _ ⟨_, rfl, hE.size, alloc_at rfl⟩ (Ext.alloc _ _)
  simp only [List.drop_succ_cons, List.drop_zero, List.take_succ_cons, List.take_zero, putAll, Act.put, List.setIfInBounds_toArray, List.set_cons_zero, List.set_cons_succ, Nat.reduceAdd]
  intro xs w2 hE hf
  simp only [factsAll, IsV, IsR, NewB, Nat.reduceAdd] at hf
  obtain ⟨e0, e1, _, e3, e4, _, R6, ⟨g2, e7, hg, hblk⟩, _⟩ := hf
  obtain ⟨s2, A2, m2, d2, e6⟩ := R6.form
  simp only [e0, e1, e3, e4, e6, e7]
  rw [e6] at R6
  have hput := RNum.put hE hg hblk R6
  obtain ⟨k0, k1, k2, k3⟩ := kept_cells hblk
  have kr := kept_reads hblk (.bool s2) (.slice A2 m2 d2)
  have kv : ((w2.setCell ⟨g2, 0, none⟩ (.bool s2)).setCell ⟨g2, 1, none⟩ (.slice A2 m2 d2)).cell? ⟨g2, 0, none⟩ = some (.bool s2) := by
    rw [World.cell?_setCell_other _ _ _ _ (by simp)]
    exact kr.1
  have kv2 := kr.2
  clear hE hblk R6 e0 e1 e3 e4 e6 e7 kr
  obtain ⟨X2, hE⟩ := hput
  replace EB := Lib.hid (below_next' EB hE)
  replace a2 := cell_below hE a2
  replace a3 := cell_below hE a3
  replace c2 := cell_below hE c2
  replace c3 := cell_below hE c3
  replace kw := cell_below hE kw
  replace kw2 := cell_below hE kw2
  replace X1 := Lib.hid (X1.out.below hE)
  replace X2 := Lib.hid X2
  clear hE hg a0 a1 c0 c1
  go_wp2_with fail
  generalize (w2.setCell ⟨g2, 0, none⟩ (.bool s2)).setCell ⟨g2, 1, none⟩ (.slice A2 m2 d2) = W2 at *
  clear k0 k1 k2 k3 kw kw2 kv kv2
  refine (cc.out _ _ _ X1.out X2.out).mono ?_
  rintro e w3 ⟨rfl, hb⟩
  replace EB := Lib.hid (below_next' EB.out hb)
  replace a2 := cell_below hb a2
  replace a3 := cell_below hb a3
  replace c2 := cell_below hb c2
  replace c3 := cell_below hb c3
  clear hb X1 X2 cc
  obtain ⟨fy, hfy⟩ : ∃ fy, fy = decide (y < 0) := ⟨_, rfl⟩
  obtain ⟨fv, hfv⟩ : ∃ fv, fv = decide (v < 0) := ⟨_, rfl⟩
  rw [← hfy, ← hfv] at Q1 Q2
  have hfyH := Lib.hid hfy
  have hfvH := Lib.hid hfv
  clear hfy hfv
  go_wp2_with fail
  refine wp_region_gives0 8 [IsV (.pointer (some ⟨w.heap.size, 2, none⟩)), IsV (.agg #[.bool s', .slice A' n' c']), IsR y 400, IsV (.bool fy), IsV (.pointer (some ⟨w.heap.size + 1, 2, none⟩)), IsV (.agg #[.bool t', .slice C' m' d']), IsR v 400, IsV (.bool fv)]
    (by kernel_rfl) (by kernel_rfl) rfl ⟨pers_isV _, pers_isV _, pers_isR _ _, pers_isV _, pers_isV _, pers_isV _, pers_isR _ _, pers_isV _, trivial⟩ ?_ ?_
  · simp only [List.take_succ_cons, List.take_zero, Obl0, putAll, Act.put, List.setIfInBounds_toArray, List.set_cons_zero, List.set_cons_succ, Nat.reduceAdd]
    refine ⟨?_, ?_, ?_, ?_, ?_, ?_, ?_, ?_, trivial⟩
    all_goals
      intro xs w' hE hf K' hK'
      simp only [factsOf, Region.binds, List.getElem?_cons_zero, List.getElem?_cons_succ, IsV, IsR, forall_const, true_and, and_true] at hf
    · go_simp
      exact hK'.out _ _ rfl (Ext.refl _)
    · have f0 := cell_below hE a2
      have f1 := cell_below hE a3
      simp only [hf] at hK' ⊢
      go_simp
      exact hK'.out _ _ rfl (Ext.refl _)
    · simp only [hf] at hK' ⊢
      go_simp
      refine (fromz_calls _ y 100 _ (AY.out _ (below_next' EB.out hE)) (by omega)).mono ?_
      rintro e w1 ⟨v1, rfl, hR, hb⟩
      exact hK'.out _ _ hR hb
    · obtain ⟨b5, A5, m5, c5, e5⟩ := RNum.form hf
      rw [e5] at hf
      have hfl := RNum.flag hf
      rw [← hfyH.out] at hfl
      rw [hfl] at e5
      simp only [e5] at hK' ⊢
      go_simp
      exact hK'.out _ _ rfl (Ext.refl _)
    · go_simp
      exact hK'.out _ _ rfl (Ext.refl _)
    · have f0 := cell_below hE c2
      have f1 := cell_below hE c3
      simp only [hf] at hK' ⊢
      go_simp
      exact hK'.out _ _ rfl (Ext.refl _)
    · obtain ⟨f1, f2⟩ := hf
      simp only [f1] at hK' ⊢
      go_simp
      refine (fromz_calls _ v 100 _ (AV.out _ (below_next' EB.out hE)) (by omega)).mono ?_
      rintro e w1 ⟨v1, rfl, hR, hb⟩
      exact hK'.out _ _ hR hb
    · obtain ⟨b5, A5, m5, c5, e5⟩ := RNum.form hf
      rw [e5] at hf
      have hfl := RNum.flag hf
      rw [← hfvH.out] at hfl
      rw [hfl] at e5
      simp only [e5] at hK' ⊢
      go_simp
      exact hK'.out _ _ rfl (Ext.refl _)
  simp only [List.drop_succ_cons, List.drop_zero, List.take_succ_cons, List.take_zero, putAll, Act.put, List.setIfInBounds_toArray, List.set_cons_zero, List.set_cons_succ, Nat.reduceAdd]
  intro xs w4 hE hf
  simp only [factsAll, IsV, IsR, Nat.reduceAdd] at hf
  obtain ⟨e0, e1, _, e3, e4, e5, _, e7, _⟩ := hf
  simp only [e0, e1, e3, e4, e5, e7]
  replace EB := Lib.hid (below_next' EB.out hE)
  clear hE e0 e1 e3 e4 e5 e7 a2 a3 c2 c3
  by_cases hyv : fy = fv
  · have hne : (fy == fv) = true := by simp [hyv]
    have hqz := Lib.hid (Q1.out hyv)
    clear hyv
    go_wp2_with fail
    go_ret
    exact ⟨by rw [hqz.out]; rfl, EB.out⟩
  · have hne : (fy == fv) = false := by simp [hyv]
    have hqz := Lib.hid (Q2.out hyv)
    clear hyv
    go_wp2_with fail
    go_ret
    exact ⟨by rw [hqz.out]; rfl, EB.out⟩
end Go.Proofs.YtmobnjlbbhhedaaGreatDoor
