/- A number with a sign, as an argument: opened. -/
import Derived.Test.YtmobnjlbbhhedaaDoorMem
import Derived.Test.YtmobnjlbbhhedaaDoorProg
import Derived.Test.YtmobnjlbbhhedaaDoorNumC
import Derived.KernelRfl
import Derived.Lib.SmallJoins
import Derived.ChangeSlices
namespace Go.Proofs.YtmobnjlbbhhedaaDoor
open Go.ChangeShapes Go.WideShapes Go.RowKit Go.Joins

set_option maxRecDepth 100000 in
theorem open_nums {H : Type} {enc : TypeId × Value → H} {w : World} {base : Nat} {held : Bool} {fuel : Nat} {u : Value} {y : DataW H × List MemPlace}
    (h : DataW.trod enc Tryd.prog w base (fun _ => true) held fuel 22 [u] = some y) : ∃ a n c X, u = .slice a n c ∧ Num .u64 B64 w (.slice a n c) X n ∧ (a = none → c = 0) := by
  rcases open_ints Tryd.underlying22 Tryd.underlying36 (by kernel_rfl) h with ⟨hcs, _⟩ | ⟨x, l, c, zs, hcs, _, hl, hm, hz, _, hcell, hwz⟩
  · simp at hcs
    subst hcs
    exact ⟨none, 0, 0, 0, rfl, Num.nil .., fun _ => rfl⟩
  · simp at hcs
    subst hcs
    obtain ⟨X, hX⟩ := num_of_row (w := w) (zs := zs) (.inr ⟨_, rfl, hl, hm, by simpa using hz, hcell, hwz⟩)
    exact ⟨_, l, c, X, rfl, hX, fun h => by cases h⟩
set_option maxRecDepth 100000 in
theorem open_Int {H : Type} {enc : TypeId × Value → H} {r : Reach} {b0 : Nat} {w : World} {base : Nat} {held : Bool} {v : Value} {d : DataW H} {p : List MemPlace}
    (hv : Value.okWide Tryd.prog w r b0 45 v) (h : DataW.Trod enc Tryd.prog w base (fun _ => true) held 45 v d p) :
    ∃ b a n c X, v = .agg #[.bool b, .slice a n c] ∧ Num .u64 B64 w (.slice a n c) X n ∧ (a = none → c = 0) := by
  obtain ⟨v0, v1, y0, y1, m, rfl, -, -, h0, h1⟩ := open_agg2 Tryd.underlying45 (by kernel_rfl) (by kernel_rfl) hv h
  obtain ⟨b, e, _⟩ := DataW.trod_bool Tryd.underlying4 h0
  simp at e
  subst e
  obtain ⟨a, n, c, X, rfl, h2⟩ := open_nums h1
  exact ⟨b, a, n, c, X, rfl, h2⟩
end Go.Proofs.YtmobnjlbbhhedaaDoor
