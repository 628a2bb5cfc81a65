/- A number with a sign, as an argument: opened. -/
import Derived.Test.YtmobnjlbbhhedaaGreatDoorMem
import Derived.Test.YtmobnjlbbhhedaaGreatDoorProg
import Derived.Test.YtmobnjlbbhhedaaGreatDoorNumC
import Derived.KernelRfl
import Derived.Lib.SmallJoins
import Derived.ChangeSlices
namespace Go.Proofs.YtmobnjlbbhhedaaGreatDoor
open Go.ChangeShapes Go.WideShapes Go.RowKit Go.Joins

set_option maxRecDepth 100000 in
theorem open_nums {H : Type} {enc : TypeId × Value → H} {w : World} {base : Nat} {held : Bool} {fuel : Nat} {u : Value} {y : DataW H × List MemPlace}
    (h : DataW.trod enc Tryz.prog w base (fun _ => true) held fuel 22 [u] = some y) : ∃ a n c X, u = .slice a n c ∧ Num .u64 B64 w (.slice a n c) X n ∧ (a = none → c = 0) := by
  rcases open_ints Tryz.underlying22 Tryz.underlying79 (by kernel_rfl) h with ⟨hcs, _⟩ | ⟨x, l, c, zs, hcs, _, hl, hm, hz, _, hcell, hwz⟩
  · simp at hcs
    subst hcs
    exact ⟨none, 0, 0, 0, rfl, Num.nil .., fun _ => rfl⟩
  · simp at hcs
    subst hcs
    obtain ⟨X, hX⟩ := num_of_row (w := w) (zs := zs) (.inr ⟨_, rfl, hl, hm, by simpa using hz, hcell, hwz⟩)
    exact ⟨_, l, c, X, rfl, hX, fun h => by cases h⟩
set_option maxRecDepth 100000 in
theorem open_Int {H : Type} {enc : TypeId × Value → H} {r : Reach} {b0 : Nat} {w : World} {base : Nat} {held : Bool} {v : Value} {d : DataW H} {p : List MemPlace}
    (hv : Value.okWide Tryz.prog w r b0 24 v) (h : DataW.Trod enc Tryz.prog w base (fun _ => true) held 24 v d p) :
    ∃ b a n c X, v = .agg #[.bool b, .slice a n c] ∧ Num .u64 B64 w (.slice a n c) X n ∧ (a = none → c = 0) := by
  obtain ⟨v0, v1, y0, y1, m, rfl, -, -, h0, h1⟩ := open_agg2 Tryz.underlying24 (by kernel_rfl) (by kernel_rfl) hv h
  obtain ⟨b, e, _⟩ := DataW.trod_bool Tryz.underlying4 h0
  simp at e
  subst e
  obtain ⟨a, n, c, X, rfl, h2⟩ := open_nums h1
  exact ⟨b, a, n, c, X, rfl, h2⟩
end Go.Proofs.YtmobnjlbbhhedaaGreatDoor

namespace Go.Proofs.YtmobnjlbbhhedaaGreatDoor
open Go.ChangeShapes Go.WideShapes Go.RowKit Go.Joins

set_option maxRecDepth 100000 in
theorem cellsInt : Tryz.prog.cellsOf 24 = 2 := by kernel_rfl
set_option maxRecDepth 100000 in
theorem cellsRat : Tryz.prog.cellsOf 26 = 4 := by kernel_rfl
set_option maxRecDepth 100000 in
theorem cellsBool : Tryz.prog.cellsOf 4 = 1 := by kernel_rfl
set_option maxRecDepth 100000 in
theorem cellsSl : Tryz.prog.cellsOf 22 = 1 := by kernel_rfl
set_option maxRecDepth 100000 in
theorem open_int2 {H : Type} {enc : TypeId × Value → H} {w : World} {base : Nat} {held : Bool} {fuel : Nat} {u0 u1 : Value} {y : DataW H × List MemPlace}
    (h : DataW.trod enc Tryz.prog w base (fun _ => true) held fuel 24 [u0, u1] = some y) : ∃ b a n c X, u0 = .bool b ∧ u1 = .slice a n c ∧ Num .u64 B64 w (.slice a n c) X n ∧ (a = none → c = 0) := by
  obtain ⟨y0, y1, n, hx, _, h0, h1⟩ := Go.ChangeShapes.trod_struct2 Tryz.underlying24 h
  rw [cellsBool] at h0
  rw [cellsSl] at h1
  have h0' : DataW.trod enc Tryz.prog w base (fun _ => true) held n 4 [u0] = some y0 := h0
  have h1' : DataW.trod enc Tryz.prog w base (fun _ => true) held n 22 [u1] = some y1 := h1
  obtain ⟨b, e, _⟩ := DataW.trod_bool Tryz.underlying4 h0'
  simp at e
  subst e
  obtain ⟨a, m, c, X, rfl, h2⟩ := open_nums h1'
  exact ⟨b, a, m, c, X, rfl, rfl, h2⟩
set_option maxRecDepth 100000 in
theorem open_Ratio {H : Type} {enc : TypeId × Value → H} {r : Reach} {b0 : Nat} {w : World} {base : Nat} {held : Bool} {v : Value} {d : DataW H} {p : List MemPlace}
    (hv : Value.okWide Tryz.prog w r b0 26 v) (h : DataW.Trod enc Tryz.prog w base (fun _ => true) held 26 v d p) :
    ∃ b a n c X b' a' n' c' X', v = .agg #[.bool b, .slice a n c, .bool b', .slice a' n' c'] ∧ Num .u64 B64 w (.slice a n c) X n ∧ (a = none → c = 0) ∧ Num .u64 B64 w (.slice a' n' c') X' n' ∧ (a' = none → c' = 0) := by
  obtain ⟨cs, rfl, hsz⟩ := okWide_struct Tryz.underlying26 hv
  obtain ⟨c0, c1, c2, c3, rfl⟩ := array4 (hsz.trans cellsRat)
  obtain ⟨fuel, hf⟩ := h
  obtain ⟨y0, y1, n, hx, _, h0, h1⟩ := Go.ChangeShapes.trod_struct2 Tryz.underlying26 hf
  rw [cellsInt] at h0 h1
  have h0' : DataW.trod enc Tryz.prog w base (fun _ => true) held n 24 [c0, c1] = some y0 := h0
  have h1' : DataW.trod enc Tryz.prog w base (fun _ => true) held n 24 [c2, c3] = some y1 := h1
  obtain ⟨b, a, m, c, X, rfl, rfl, k1, k2⟩ := open_int2 h0'
  obtain ⟨b', a', m', c', X', rfl, rfl, k3, k4⟩ := open_int2 h1'
  exact ⟨b, a, m, c, X, b', a', m', c', X', rfl, k1, k2, k3, k4⟩
end Go.Proofs.YtmobnjlbbhhedaaGreatDoor
