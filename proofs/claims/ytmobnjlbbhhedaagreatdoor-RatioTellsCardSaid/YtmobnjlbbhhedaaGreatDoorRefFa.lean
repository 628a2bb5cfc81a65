/- The walk of outriggerref02.New: numbers with a sign. -/
import Derived.Test.YtmobnjlbbhhedaaGreatDoorRefA
import Derived.Test.YtmobnjlbbhhedaaGreatDoorNumC
import Derived.Deep.RegionWith
import Derived.Test.YtmobnjlbbhhedaaGreatDoorReg
set_option linter.unusedVariables false
set_option linter.unusedSimpArgs false
namespace Go.Proofs.YtmobnjlbbhhedaaGreatDoor
open Go.RowKit

/-- The reference's number with a sign: its value, at most so many digits. -/
def RNum (w : World) (v : Value) (Z : Int) (L : Nat) : Prop :=
  ∃ neg A m c X, v = .agg #[.bool neg, .slice A m c] ∧ Num .u32 B16 w (.slice A m c) X m ∧ IsLen B16 X m ∧ m ≤ L ∧ Z = (if neg then -(X : Int) else (X : Int)) ∧ (neg = true → 0 < X)
theorem RNum.below {w w' : World} {v : Value} {Z : Int} {L : Nat} (h : RNum w v Z L) (hb : Below w.heap.size w w') : RNum w' v Z L := by
  obtain ⟨neg, A, m, c, X, e, h1, h2⟩ := h
  exact ⟨neg, A, m, c, X, e, h1.below hb, h2⟩
theorem RNum.le {w : World} {v : Value} {Z : Int} {L L' : Nat} (h : RNum w v Z L) (hb : L ≤ L') : RNum w v Z L' := by
  obtain ⟨neg, A, m, c, X, e, h1, h2, h3, h4⟩ := h
  exact ⟨neg, A, m, c, X, e, h1, h2, by omega, h4⟩
theorem IsLen.pos_iff {X m : Nat} (h : IsLen B16 X m) : 0 < m ↔ 0 < X := by
  constructor
  · intro hm
    rcases Nat.eq_zero_or_pos X with h0 | h0
    · subst h0
      have := h.2 0 (by simp)
      omega
    · exact h0
  · intro hx
    rcases Nat.eq_zero_or_pos m with h0 | h0
    · subst h0
      have := h.1
      simp at this
      omega
    · exact h0

/-- A slice in memory, behind one that reads as it. -/
theorem RNum.of_take {w : World} {A : Option Addr} {n m c X : Nat} (h : Num .u32 B16 w (.slice A n c) X n) (hl : IsLen B16 X m) (hm : m ≤ n) : Num .u32 B16 w (.slice A m c) X m := by
  obtain ⟨A', c', e, hn, hc⟩ := h.form
  cases e
  exact h.take hm hl.1 c (by omega) (Nat.le_refl _)
set_option maxRecDepth 100000 in
theorem new_calls (neg : Bool) (d : Value) (X n : Nat) (w : World) (h : Num .u32 B16 w d X n) :
    Calls Tryz.prog 29 #[.bool neg, d] w fun e w' => ∃ v, e = .returned v ∧ RNum w' v (if neg then -(X : Int) else (X : Int)) n ∧ Below w.heap.size w w' := by
  have H := Lib.hid h
  clear h
  go_enter Tryz.func29, Tryz.ntmps29
  go_wp2_with fail
  refine (trimA_calls d n X _ (H.out.below ((Below.refl _ _).alloc (Nat.le_refl _) _))).mono ?_
  rintro e w' ⟨A, m, c, rfl, rfl, hm, _, hl, rfl⟩
  have hp := hl.pos_iff
  have HN : Hid (∀ o, Num .u32 B16 (w.alloc o) (.slice A m c) X m) := fun o => (RNum.of_take H.out hl hm).below ((Below.refl _ _).alloc (Nat.le_refl _) _)
  have hl' := Lib.hid hl
  clear hl H
  cases neg with
  | false =>
    go_wp2_with fail
    refine bodyPost_ret (v := .agg #[.bool false, .slice A m c]) (by simp [results, Tryz.results29, go_sem]) rfl ?_
    exact ⟨_, rfl, ⟨false, A, m, c, X, rfl, HN.out _, hl'.out, hm, rfl, fun h => by cases h⟩, (Below.refl _ _).alloc (Nat.le_refl _) _⟩
  | true =>
    by_cases h0 : 0 < m
    · have hX := Lib.hid (hp.1 h0)
      clear hp
      go_wp2_with fail
      refine bodyPost_ret (v := .agg #[.bool true, .slice A m c]) (by simp [results, Tryz.results29, go_sem]) rfl ?_
      exact ⟨_, rfl, ⟨true, A, m, c, X, rfl, HN.out _, hl'.out, hm, rfl, fun _ => hX.out⟩, (Below.refl _ _).alloc (Nat.le_refl _) _⟩
    · have hX : Hid (X = 0) := by show X = 0; omega
      clear hp
      go_wp2_with fail
      refine bodyPost_ret (v := .agg #[.bool false, .slice A m c]) (by simp [results, Tryz.results29, go_sem]) rfl ?_
      refine ⟨_, rfl, ⟨false, A, m, c, X, rfl, HN.out _, hl'.out, hm, ?_, fun h => by cases h⟩, (Below.refl _ _).alloc (Nat.le_refl _) _⟩
      have := hX.out
      subst this
      rfl
theorem RNum.form {w : World} {v : Value} {Z : Int} {L : Nat} (h : RNum w v Z L) : ∃ b A m c, v = .agg #[.bool b, .slice A m c] := by
  obtain ⟨b, A, m, c, X, e, _⟩ := h
  exact ⟨b, A, m, c, e⟩
/-- Cells none of which is a number. -/
def NoInt (cs : Array Value) : Prop := ∀ (i : Nat) (u : Value), cs[i]? = some u → ∀ k z, u ≠ Value.int k z
theorem NoInt.two (b : Bool) (A : Option Addr) (m c : Nat) : NoInt #[.bool b, .slice A m c] := by
  intro i u h k z
  match i, h with
  | 0, h => simp at h; subst h; simp
  | 1, h => simp at h; subst h; simp
  | i + 2, h => simp at h
theorem NoInt.set {cs : Array Value} (h : NoInt cs) (i : Nat) {v : Value} (hv : ∀ k z, v ≠ .int k z) : NoInt (cs.setIfInBounds i v) := by
  intro j u hj
  rw [Array.getElem?_setIfInBounds] at hj
  split at hj
  · split at hj
    · cases hj; exact hv
    · cases hj
  · exact h j u hj
theorem Num.store {k : IntKind} {B X n g off : Nat} {w : World} {v u : Value} {cs : Array Value} {t : TypeId} {fr : Nat × Nat} (h : Num k B w v X n) (hb : w.heap[g]? = some (.cells cs t fr)) (hn : NoInt cs) : Num k B (w.setCell ⟨g, off, none⟩ u) v X n := by
  obtain ⟨A, c, e, hx, h1, h2, hr⟩ := h
  refine ⟨A, c, e, hx, h1, h2, fun h0 => ?_⟩
  obtain ⟨ad, ea, hc⟩ := hr h0
  refine ⟨ad, ea, fun j hj => ?_⟩
  have hcj := hc j hj
  rw [World.cell?_setCell_far w ⟨g, off, none⟩ (ad.add j) u ?_]
  · exact hcj
  · intro hg
    have hg' : (ad.add j).block = g := hg.symm
    unfold World.cell? at hcj
    rw [hg', hb] at hcj
    simp only at hcj
    split at hcj
    · cases hcj
    · exact hn _ _ hcj _ _ rfl
theorem heap_setCell {w : World} {g i : Nat} {cs : Array Value} {t : TypeId} {fr : Nat × Nat} (h : w.heap[g]? = some (.cells cs t fr)) (v : Value) : (w.setCell ⟨g, i, none⟩ v).heap[g]? = some (.cells (cs.setIfInBounds i v) t fr) := by
  rw [setCell_eq_setRow w g i cs t fr v h]
  exact setRow_heap w g _ _ t _ h
/-- A result is put where the call keeps it. -/
theorem RNum.put {w w1 : World} {g : Nat} {b0 b : Bool} {A0 A : Option Addr} {m0 c0 m c : Nat} {t : TypeId} {fr : Nat × Nat} {Z : Int} {L : Nat} (hbel : Below w.heap.size w w1) (hg : w.heap.size ≤ g)
    (hblk : w1.heap[g]? = some (.cells #[.bool b0, .slice A0 m0 c0] t fr)) (hR : RNum w1 (.agg #[.bool b, .slice A m c]) Z L) :
    RNum ((w1.setCell ⟨g, 0, none⟩ (.bool b)).setCell ⟨g, 1, none⟩ (.slice A m c)) (.agg #[.bool b, .slice A m c]) Z L ∧ Below w.heap.size w ((w1.setCell ⟨g, 0, none⟩ (.bool b)).setCell ⟨g, 1, none⟩ (.slice A m c)) := by
  refine ⟨?_, (hbel.setCell hg _).setCell hg _⟩
  obtain ⟨b', A', m', c', X, e, h1, h2⟩ := hR
  cases e
  exact ⟨b, A, m, c, X, rfl, (h1.store hblk (NoInt.two b0 A0 m0 c0)).store (heap_setCell hblk _) ((NoInt.two b0 A0 m0 c0).set 0 (by simp)), h2⟩
/-- What a call knows of the block that keeps its result. -/
theorem kept_cells {w1 : World} {g : Nat} {b0 : Bool} {A0 : Option Addr} {m0 c0 : Nat} {t : TypeId} (hblk : w1.heap[g]? = some (.cells #[.bool b0, .slice A0 m0 c0] t (0, 0))) :
    w1.cell? ⟨g, 0, none⟩ = some (.bool b0) ∧ w1.cell? ⟨g, 1, none⟩ = some (.slice A0 m0 c0) ∧ w1.frozen? ⟨g, 0, none⟩ = false ∧ w1.frozen? ⟨g, 1, none⟩ = false := by
  refine ⟨?_, ?_, ?_, ?_⟩
  · simp [World.cell?, hblk]
  · simp [World.cell?, hblk]
  · simp [World.frozen?, hblk]
  · simp [World.frozen?, hblk]
theorem set_cell_at {w1 : World} {g i : Nat} {cs : Array Value} {t : TypeId} {fr : Nat × Nat} (hblk : w1.heap[g]? = some (.cells cs t fr)) (hi : i < cs.size) (v : Value) : (w1.setCell ⟨g, i, none⟩ v).cell? ⟨g, i, none⟩ = some v := by
  simp [World.cell?, heap_setCell hblk v, hi]
/-- The result, read again. -/
theorem kept_reads {w1 : World} {g : Nat} {b0 : Bool} {A0 : Option Addr} {m0 c0 : Nat} {t : TypeId} (hblk : w1.heap[g]? = some (.cells #[.bool b0, .slice A0 m0 c0] t (0, 0))) (u v : Value) :
    (w1.setCell ⟨g, 0, none⟩ u).cell? ⟨g, 0, none⟩ = some u ∧ ((w1.setCell ⟨g, 0, none⟩ u).setCell ⟨g, 1, none⟩ v).cell? ⟨g, 1, none⟩ = some v :=
  ⟨set_cell_at hblk (by simp) u, set_cell_at (heap_setCell hblk u) (by simp) v⟩
theorem alloc_at {w : World} {o : Obj} {g : Nat} (h : w.heap.size = g) : (w.alloc o).heap[g]? = some o := by
  subst h
  exact heap_alloc_new w o
/-- What is known of a value: it is this number. -/
def IsR (Z : Int) (L : Nat) : Value → World → Prop := fun v w => RNum w v Z L
theorem pers_isR (Z : Int) (L : Nat) : Pers (IsR Z L) := fun v w w' h hE => RNum.below h hE
/-- It is a slice that reads as this number. -/
def IsN (k : IntKind) (B X L : Nat) : Value → World → Prop := fun v w => ∃ A n c, v = .slice A n c ∧ Num k B w (.slice A n c) X n ∧ IsLen B X n ∧ n ≤ L
theorem pers_isN (k : IntKind) (B X L : Nat) : Pers (IsN k B X L) := fun v w w' ⟨A, n, c, e, h, l, m⟩ hE => ⟨A, n, c, e, h.below hE, l, m⟩
end Go.Proofs.YtmobnjlbbhhedaaGreatDoor
