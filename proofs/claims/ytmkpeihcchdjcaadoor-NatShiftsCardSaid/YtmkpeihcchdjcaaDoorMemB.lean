/- append of whatever slice of digits, nil too. -/
import Derived.Test.YtmkpeihcchdjcaaDoorMem
import Derived.Laws.AppendOwnNone
namespace Go.Proofs.YtmkpeihcchdjcaaDoor
open Go.RowKit

theorem wpList_append_OwnDn {P : Program} (w : World) {ops : Array Oper} {rest : List Oper} {o : Oper} {a : Act} {Q : Exit → Act → World → Prop} (hgd : o.guard = none) (s x : Operand) (t e : TypeId)
    (ho : o.op = .call { callee := .builtin .append, args := #[s, x], argTypes := #[t, t] }) (k : IntKind) (B bytes : Nat)
    (ht : P.underlying t = some (.slice e)) (hinfo : (P.info? e).map (fun i => (i.zero, i.size, i.bytes)) = some (some (.int k 0), 1, bytes))
    (base : Nat) (v : Value) (Z n m : Nat) (hs : a.eval s = v) (hown : OwnD k B e w base v Z n) (A : Option Addr) (c : Nat) (hx : a.eval x = .slice A m c) (hnil : A = none → m = 0 ∧ c = 0)
    (hcell : ∀ ad, A = some ad → ∀ j, j < m → w.cell? (ad.add j) = some (.int k (dig B Z (n + j) : Nat))) (hn : n + m ≤ 50000) (hby : bytes ≤ 8) (hbase : base ≤ w.heap.size)
    (h : ∀ v' w', OwnD k B e w' base v' Z (n + m) → w.grownBy w' v.ownBlock → wpList P ops Q rest (a.put o.dst v') w') : wpList P ops Q (o :: rest) a w := by
  cases A with
  | some ad => exact wpList_append_OwnDs w hgd s x t e ho k B bytes ht hinfo base v Z n m hs hown ad c hx (hcell ad rfl) hn hby hbase h
  | none =>
    obtain ⟨rfl, rfl⟩ := hnil rfl
    obtain ⟨i0, hi, hz0, hz1, hz2⟩ := info_parts hinfo
    exact wpList_append_own_none hgd s x t ho base e i0 1 ht hi v n _ hs hown hx (h v w hown (World.grownBy.refl w _))
end Go.Proofs.YtmkpeihcchdjcaaDoor
