/- clear and copy at a row of the call's own. -/
import Derived.Test.YtmobnjlbbhhedaaGreatDoorMem
import Derived.Laws.CopyOwn
import Derived.Lib.SliceRun
import Derived.Deep.Upon
import Derived.BigFrame
namespace Go.Proofs.YtmobnjlbbhhedaaGreatDoor
open Go.RowKit

/-- One block alone has turned. -/
structure OnlyG (g : Nat) (w w' : World) : Prop where
  os : w'.os = w.os
  tape : w'.tape = w.tape
  output : w'.output = w.output
  size : w'.heap.size = w.heap.size
  block : ∀ i, i ≠ g → w'.heap[i]? = w.heap[i]?
theorem OnlyG.below {g B : Nat} {w0 w w' : World} (h : OnlyG g w w') (hb : Below B w0 w) (hB : B ≤ g) : Below B w0 w' :=
  hb.trans ⟨h.os, h.tape, h.output, Nat.le_of_eq h.size.symm, fun k hk => h.block k (by omega)⟩
theorem OnlyG.trans {g : Nat} {a b c : World} (h : OnlyG g a b) (k : OnlyG g b c) : OnlyG g a c :=
  ⟨k.os.trans h.os, k.tape.trans h.tape, k.output.trans h.output, k.size.trans h.size, fun i hi => (k.block i hi).trans (h.block i hi)⟩
theorem OnlyG.setCell (w : World) (g i : Nat) (v : Value) : OnlyG g w (w.setCell ⟨g, i, none⟩ v) :=
  ⟨rfl, rfl, rfl, by simp [World.setCell], fun k hk => Below.heap_setCell _ _ _ _ (by exact hk)⟩
theorem OnlyG.cell {g : Nat} {w w' : World} (h : OnlyG g w w') {a : Addr} (ha : a.block ≠ g) : w'.cell? a = w.cell? a := World.cell?_of_block (w := w) (h.block a.block ha)
theorem OnlyG.num {k : IntKind} {B g X n m c : Nat} {w w' : World} {A : Option Addr} (h : OnlyG g w w') (hn : Num k B w (.slice A m c) X n) (ha : ∀ ad, A = some ad → ad.block ≠ g) : Num k B w' (.slice A m c) X n := by
  obtain ⟨A', c', e, hx, h1, h2, hr⟩ := hn
  cases e
  refine ⟨_, _, rfl, hx, h1, h2, fun h0 => ?_⟩
  obtain ⟨ad, ea, hc⟩ := hr h0
  exact ⟨ad, ea, fun j hj => (h.cell (by rw [block_add]; exact ha ad ea)).trans (hc j hj)⟩
theorem OwnRow.other {w w' : World} {g g' t n : Nat} {f : Nat → Value} (h : OwnRow w g' t n f) (ho : OnlyG g w w') (hne : g' ≠ g) : OwnRow w' g' t n f := h.of_block (ho.block g' hne)

theorem OwnRow.setCells {t n g : Nat} : ∀ (vs : List Value) (o : Nat) (w : World) (f : Nat → Value), OwnRow w g t n f →
    OwnRow (w.setCells g o vs) g t n (fun j => if o ≤ j ∧ j < o + vs.length then vs.getD (j - o) undef else f j) ∧ OnlyG g w (w.setCells g o vs)
  | [], o, w, f, h => ⟨h.congr fun j hj => by
      show _ = if _ then _ else _
      rw [if_neg (fun hh => by have := hh.2; simp at this; omega)], ⟨rfl, rfl, rfl, rfl, fun _ _ => rfl⟩⟩
  | v :: vs, o, w, f, h => by
    have h1 := h.set o v
    obtain ⟨h2, h3⟩ := OwnRow.setCells vs (o + 1) (w.setCell ⟨g, o, none⟩ v) _ h1
    refine ⟨h2.congr fun j hj => ?_, (OnlyG.setCell w g o v).trans h3⟩
    show (if o + 1 ≤ j ∧ j < o + 1 + vs.length then vs.getD (j - (o + 1)) undef else (if j = o then v else f j)) = if o ≤ j ∧ j < o + (vs.length + 1) then (v :: vs).getD (j - o) undef else f j
    by_cases hj0 : j = o
    · subst hj0
      rw [if_neg (by omega), if_pos rfl, if_pos (by omega), Nat.sub_self]
      first | rfl | simp
    · by_cases hr : o + 1 ≤ j ∧ j < o + 1 + vs.length
      · rw [if_pos hr, if_pos (by omega), show j - o = (j - (o + 1)) + 1 by omega]
        rfl
      · rw [if_neg hr, if_neg hj0, if_neg (by omega)]

/-- clear of a stretch of an own row. -/
theorem wpList_clear_row {P : Program} {w : World} {ops : Array Oper} {rest : List Oper} {o : Oper} {a : Act} {Q : Exit → Act → World → Prop} (hgd : o.guard = none) (s : Operand) (t e : TypeId) (z : Value)
    (ho : o.op = .call { callee := .builtin .clear, args := #[s], argTypes := #[t] }) (ht : P.underlying t = some (.slice e)) (hv : ∀ w, (zeroValue e).run P w = .ok z w) (hz : z.cells = #[z]) (h1 : z.oneCell' = true)
    (g off len cap n : Nat) (f : Nat → Value) (hs : a.eval s = .slice (some ⟨g, off, none⟩) len cap) (hl : 0 < len) (hr : OwnRow w g e n f) (hfit : off + len ≤ n)
    (h : ∀ w', OwnRow w' g e n (fun j => if off ≤ j ∧ j < off + len then z else f j) → OnlyG g w w' → wpList P ops Q rest (a.put o.dst (.tuple #[])) w') : wpList P ops Q (o :: rest) a w := by
  refine wpList_plain hgd fun K hK => ?_
  have hrun := Lib.run_clear_slice (P := P) w t e o.type z ht hv hz h1 g off len cap hl (fun j hj => by rw [hr.cell (by omega)]; rfl) (fun j hj => hr.frozen _)
  unfold Oper.wp
  simp [execOp, ho, resolve, invoke, builtin, hs, hrun, Result.andThen]
  obtain ⟨h2, h3⟩ := OwnRow.setCells (List.replicate len z) off w f hr
  refine hK _ _ (h _ (h2.congr fun j hj => ?_) h3)
  rw [List.length_replicate]
  split
  · rename_i hj2
    rw [List.getD_eq_getElem?_getD, List.getElem?_replicate, if_pos (by omega)]
    rfl
  · rfl
/-- copy into a stretch of an own row. -/
theorem wpList_copy_row {P : Program} {w : World} {ops : Array Oper} {rest : List Oper} {o : Oper} {a : Act} {Q : Exit → Act → World → Prop} (hgd : o.guard = none) (d s : Operand) (t e : TypeId)
    (ho : o.op = .call { callee := .builtin .copy, args := #[d, s], argTypes := #[t, t] }) (ht : P.underlying t = some (.slice e)) (hsz : (P.info? e).map (·.size) = some 1)
    (g off dLen dCap n : Nat) (f : Nat → Value) (hd : a.eval d = .slice (some ⟨g, off, none⟩) dLen dCap) (k : IntKind) (B L m sCap : Nat) (A : Option Addr) (hs : a.eval s = .slice A m sCap) (hL : Num k B w (.slice A m sCap) L m) (hm : m ≤ dLen)
    (hr : OwnRow w g e n f) (hfit : off + dLen ≤ n)
    (h : ∀ w', OwnRow w' g e n (fun j => if off ≤ j ∧ j < off + m then .int k (dig B L (j - off) : Nat) else f j) → OnlyG g w w' → wpList P ops Q rest (a.put o.dst (goInt m)) w') : wpList P ops Q (o :: rest) a w := by
  by_cases h0 : m = 0
  · subst h0
    refine wpList_copy_nothing hgd d s t t ho e ht hsz _ A dLen dCap 0 sCap hd hs (by simp) (h w (hr.congr fun j hj => by rw [if_neg (by omega)]) ⟨rfl, rfl, rfl, rfl, fun _ _ => rfl⟩)
  · obtain ⟨ad, rfl, _⟩ := hL.cell (show 0 < m by omega)
    obtain ⟨c, hb, hn, hc⟩ := hr
    have hlen : (digs k B L m).length = m := digs_length ..
    refine wpList_copy_own hgd d s t t ho e ht hsz g off dLen dCap ad m sCap hd hs c e hb (digs k B L m) (by rw [hlen]; exact (Nat.min_eq_left hm).symm) (fun j v hj => ?_) (by rw [hlen]; omega) (digs_oneCell _ _ _ _) ?_
    · rw [digs_get] at hj
      split at hj
      · cases hj
        rename_i hjm
        obtain ⟨ad', e', hcell⟩ := hL.cell hjm
        cases e'
        exact hcell
      · cases hj
    · rw [hlen]
      refine h _ ⟨_, setRow_heap w g _ _ _ _ hb, ?_, fun j hj => ?_⟩ ⟨rfl, rfl, rfl, by simp [World.setRow], fun i hi => setRow_other w g i _ hi⟩
      · simp [hlen]; omega
      · have hcj := hc j hj
        simp only [List.getElem?_toArray]
        by_cases h1 : j < off
        · rw [List.getElem?_append_left (by simp; omega), List.getElem?_take, if_pos h1, if_neg (by omega)]
          simpa using hcj
        · rw [List.getElem?_append_right (by simp; omega)]
          have e1 : (c.toList.take off).length = off := by simp; omega
          rw [e1]
          by_cases h2 : j < off + m
          · rw [List.getElem?_append_left (by rw [hlen]; omega), digs_get, if_pos (by omega), if_pos (by omega)]
          · rw [List.getElem?_append_right (by rw [hlen]; omega), hlen, List.getElem?_drop, if_neg (by omega)]
            rw [show off + m + (j - off - m) = j by omega]
            simpa using hcj
end Go.Proofs.YtmobnjlbbhhedaaGreatDoor
