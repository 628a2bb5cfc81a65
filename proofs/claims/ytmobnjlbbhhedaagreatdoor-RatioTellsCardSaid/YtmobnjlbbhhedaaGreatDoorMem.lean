/- What it means that a slice reads as a number, and how that lives on. -/
import Derived.Test.YtmobnjlbbhhedaaGreatDoorNum
import Derived.Below
import Derived.Deep.OwnRows
import Derived.WalkKit
import Derived.Lib.Hide
import Derived.Deep.Draws
import Derived.Deep.QuietTactic
namespace Go.Proofs.YtmobnjlbbhhedaaGreatDoor
open Go.RowKit

/-- The slice v reads as the number X, in n digits. -/
def Num (k : IntKind) (B : Nat) (w : World) (v : Value) (X n : Nat) : Prop :=
  ∃ (A : Option Addr) (c : Nat), v = .slice A n c ∧ X < B ^ n ∧ n ≤ c ∧ c ≤ 9223372036854775807 ∧
    (0 < n → ∃ ad : Addr, A = some ad ∧ ∀ j, j < n → w.cell? (ad.add j) = some (.int k (dig B X j : Nat)))
/-- The same, in as few digits as it takes. -/
def Can (k : IntKind) (B : Nat) (w : World) (v : Value) (X : Nat) : Prop := ∃ n, Num k B w v X n ∧ IsLen B X n

theorem add_none (b o j : Nat) : (⟨b, o, none⟩ : Addr).add j = ⟨b, o + j, none⟩ := by unfold Addr.add; split <;> simp_all
theorem add_zero' (ad : Addr) : ad.add 0 = ad := by
  unfold Addr.add; split <;> simp_all
theorem block_add (ad : Addr) (j : Nat) : (ad.add j).block = ad.block := by unfold Addr.add; split <;> rfl

theorem cell_below {w w1 : World} (h : Below w.heap.size w w1) {a : Addr} {v : Value} (hc : w.cell? a = some v) : w1.cell? a = some v := (h.cell (World.block_lt_of_cell? w a hc)).trans hc
theorem Num.below {k : IntKind} {B : Nat} {w w1 : World} {v : Value} {X n : Nat} (h : Num k B w v X n) (hb : Below w.heap.size w w1) : Num k B w1 v X n := by
  obtain ⟨A, c, e, hx, hn, hc, hr⟩ := h
  exact ⟨A, c, e, hx, hn, hc, fun h0 => by
    obtain ⟨ad, ea, hcell⟩ := hr h0
    exact ⟨ad, ea, fun j hj => cell_below hb (hcell j hj)⟩⟩
theorem Can.below {k : IntKind} {B : Nat} {w w1 : World} {v : Value} {X : Nat} (h : Can k B w v X) (hb : Below w.heap.size w w1) : Can k B w1 v X := by
  obtain ⟨n, h1, h2⟩ := h
  exact ⟨n, h1.below hb, h2⟩
theorem Num.lt {k : IntKind} {B : Nat} {w : World} {v : Value} {X n : Nat} (h : Num k B w v X n) : X < B ^ n := by
  obtain ⟨A, c, e, hx, _⟩ := h; exact hx
theorem dig_div' (B X q i : Nat) : dig B (X / B ^ q) i = dig B X (q + i) := by
  unfold dig
  rw [Nat.div_div_eq_div_mul, ← Nat.pow_add]
/-- A slice's first digits. -/
theorem Num.take {k : IntKind} {B : Nat} {w : World} {A : Option Addr} {c X n m : Nat} (h : Num k B w (.slice A n c) X n) (hm : m ≤ n) (hx : X < B ^ m) (c' : Nat) (h1 : m ≤ c') (h2 : c' ≤ c) : Num k B w (.slice A m c') X m := by
  obtain ⟨A', c0, e, _, hn, hc, hr⟩ := h
  cases e
  refine ⟨_, c', rfl, hx, h1, by omega, fun h0 => ?_⟩
  obtain ⟨ad, ea, hcell⟩ := hr (by omega)
  exact ⟨ad, ea, fun j hj => hcell j (by omega)⟩
theorem add_add (ad : Addr) (i j : Nat) : (ad.add i).add j = ad.add (i + j) := by
  unfold Addr.add
  by_cases h1 : i = 0
  · subst h1; simp
  · by_cases h2 : j = 0
    · subst h2; simp
    · rw [if_neg h1, if_neg h2, if_neg (by omega)]
      simp [Nat.add_assoc]
/-- A slice without its first digits. -/
theorem Num.drop {k : IntKind} {B : Nat} {w : World} {ad : Addr} {c X n q : Nat} (hB : 0 < B) (h : Num k B w (.slice (some ad) n c) X n) (hq : q ≤ n) (c' : Nat) (h1 : n - q ≤ c') (h2 : c' ≤ c) : Num k B w (.slice (some (ad.add q)) (n - q) c') (X / B ^ q) (n - q) := by
  obtain ⟨A', c0, e, hx, hn, hc, hr⟩ := h
  cases e
  refine ⟨_, c', rfl, ?_, h1, by omega, fun h0 => ⟨_, rfl, fun j hj => ?_⟩⟩
  · rw [Nat.div_lt_iff_lt_mul (Nat.pow_pos hB), ← Nat.pow_add, Nat.sub_add_cancel hq]
    exact hx
  · obtain ⟨ad', ea, hcell⟩ := hr (by omega)
    cases ea
    rw [add_add, dig_div']
    exact hcell (q + j) (by omega)
theorem Num.form {k : IntKind} {B : Nat} {w : World} {v : Value} {X n : Nat} (h : Num k B w v X n) : ∃ A c, v = .slice A n c ∧ n ≤ c ∧ c ≤ 9223372036854775807 := by
  obtain ⟨A, c, e, hx, h1, h2, _⟩ := h; exact ⟨A, c, e, h1, h2⟩
theorem Num.cell {k : IntKind} {B : Nat} {w : World} {A : Option Addr} {c X n : Nat} (h : Num k B w (.slice A n c) X n) {i : Nat} (hi : i < n) : ∃ ad : Addr, A = some ad ∧ w.cell? (ad.add i) = some (.int k (dig B X i : Nat)) := by
  obtain ⟨A', c0, e, _, _, _, hr⟩ := h
  cases e
  obtain ⟨ad, ea, hcell⟩ := hr (by omega)
  exact ⟨ad, ea, hcell i hi⟩
theorem Num.nil (k : IntKind) (B : Nat) (w : World) : Num k B w (.slice none 0 0) 0 0 := ⟨none, 0, rfl, by simp, Nat.le_refl _, by omega, fun h => by omega⟩
theorem Can.nil (k : IntKind) (B : Nat) (w : World) : Can k B w (.slice none 0 0) 0 := ⟨0, Num.nil .., IsLen.zero _⟩


/-- max of two lengths, told as one length. -/
theorem run_max_nat {P : Program} (w : World) (ts : Array TypeId) (t : TypeId) (a b : Nat) :
    (Builtin.max_ ts t #[.int .i64 a, .int .i64 b]).run P w = .ok (.int .i64 (max a b : Nat)) w := by
  rw [run_max_int2]
  split
  · rw [Nat.max_eq_right (by omega)]
  · rw [Nat.max_eq_left (by omega)]
theorem run_min_nat {P : Program} (w : World) (ts : Array TypeId) (t : TypeId) (a b : Nat) :
    (Builtin.min_ ts t #[.int .i64 a, .int .i64 b]).run P w = .ok (.int .i64 (min a b : Nat)) w := by
  rw [run_min_int2]
  split
  · rw [Nat.min_eq_right (by omega)]
  · rw [Nat.min_eq_left (by omega)]

/-- BLOCK g IS A ROW OF THE CALL's OWN, none of it frozen; its first n cells, of type t, hold 'f i'. -/
def OwnRow (w : World) (g : Nat) (t : TypeId) (n : Nat) (f : Nat → Value) : Prop :=
  ∃ c : Array Value, w.heap[g]? = some (.cells c t (0, 0)) ∧ n ≤ c.size ∧ ∀ i, i < n → c[i]? = some (f i)
theorem OwnRow.of_rowIs {w : World} {g t n : Nat} {f : Nat → Value} (h : w.rowIs g t n f) : OwnRow w g t n f := by
  obtain ⟨c, hb, hn, hc⟩ := h
  exact ⟨c, hb, by omega, hc⟩
theorem OwnRow.cell {w : World} {g t n : Nat} {f : Nat → Value} (h : OwnRow w g t n f) {i : Nat} (hi : i < n) : w.cell? ⟨g, i, none⟩ = some (f i) := by
  obtain ⟨c, hb, _, hc⟩ := h
  simp [World.cell?, hb, hc i hi]
theorem OwnRow.frozen {w : World} {g t n : Nat} {f : Nat → Value} (h : OwnRow w g t n f) (i : Nat) : w.frozen? ⟨g, i, none⟩ = false := by
  obtain ⟨c, hb, _, _⟩ := h
  simp [World.frozen?, hb]
theorem OwnRow.lt {w : World} {g t n : Nat} {f : Nat → Value} (h : OwnRow w g t n f) : g < w.heap.size := by
  obtain ⟨c, hb, _, _⟩ := h
  obtain ⟨hlt, _⟩ := Array.getElem?_eq_some_iff.1 hb
  exact hlt
theorem OwnRow.congr {w : World} {g t n : Nat} {f f' : Nat → Value} (h : OwnRow w g t n f) (e : ∀ i, i < n → f i = f' i) : OwnRow w g t n f' := by
  obtain ⟨c, hb, hn, hc⟩ := h
  exact ⟨c, hb, hn, fun i hi => by rw [hc i hi, e i hi]⟩
theorem OwnRow.of_block {w w' : World} {g t n : Nat} {f : Nat → Value} (h : OwnRow w g t n f) (e : w'.heap[g]? = w.heap[g]?) : OwnRow w' g t n f := by
  obtain ⟨c, hb, hn, hc⟩ := h
  exact ⟨c, e.trans hb, hn, hc⟩
theorem OwnRow.set {w : World} {g t n : Nat} {f : Nat → Value} (h : OwnRow w g t n f) (i : Nat) (v : Value) : OwnRow (w.setCell ⟨g, i, none⟩ v) g t n (fun j => if j = i then v else f j) := by
  obtain ⟨c, hb, hn, hc⟩ := h
  refine ⟨c.setIfInBounds i v, ?_, by simpa using hn, fun j hj => ?_⟩
  · simp [World.setCell, Array.getElem?_modify, hb]
  · rw [Array.getElem?_setIfInBounds]
    by_cases e : j = i
    · subst e
      rw [if_pos rfl, if_pos (by omega)]
      simp
    · rw [if_neg (fun h => e h.symm)]
      show c[j]? = some (if j = i then v else f j)
      rw [if_neg e]
      exact hc j hj

/-- A row of the call's own, in block g, that holds the number R in n digits. -/
def Row (k : IntKind) (B : Nat) (t : TypeId) (w : World) (g n R : Nat) : Prop := OwnRow w g t n (fun j => .int k (dig B R j : Nat)) ∧ R < B ^ n
theorem Row.numc {k : IntKind} {B : Nat} {t : TypeId} {w : World} {g n R : Nat} (h : Row k B t w g n R) (c : Nat) (hn : n ≤ c) (hc : c ≤ 9223372036854775807) : Num k B w (.slice (some ⟨g, 0, none⟩) n c) R n :=
  ⟨_, c, rfl, h.2, hn, hc, fun h0 => ⟨_, rfl, fun j hj => by rw [add_none, Nat.zero_add]; exact h.1.cell hj⟩⟩
theorem Row.num {k : IntKind} {B : Nat} {t : TypeId} {w : World} {g n R : Nat} (h : Row k B t w g n R) (hn : n ≤ 9223372036854775807) : Num k B w (.slice (some ⟨g, 0, none⟩) n n) R n := h.numc n (Nat.le_refl _) hn
theorem Row.made {k : IntKind} {B : Nat} (hB : 0 < B) (t : TypeId) (w : World) (n : Nat) : Row k B t (w.alloc (.cells (madeCells #[.int k 0] n) t)) w.heap.size n 0 :=
  ⟨(OwnRow.of_rowIs (World.rowIs_made w (.int k 0) n t)).congr fun i hi => by simp [dig_zero], Nat.pow_pos hB⟩
theorem Row.cell {k : IntKind} {B : Nat} {t : TypeId} {w : World} {g n R : Nat} (h : Row k B t w g n R) {i : Nat} (hi : i < n) : w.cell? ⟨g, i, none⟩ = some (.int k (dig B R i : Nat)) := h.1.cell hi
theorem Row.frozen {k : IntKind} {B : Nat} {t : TypeId} {w : World} {g n R : Nat} (h : Row k B t w g n R) (i : Nat) : w.frozen? ⟨g, i, none⟩ = false := h.1.frozen i
theorem Row.drewN {k : IntKind} {B : Nat} {t : TypeId} {w : World} {g n R : Nat} (h : Row k B t w g n R) (m : Nat) : Row k B t (w.drewN m) g n R := h
theorem Row.of_block {k : IntKind} {B : Nat} {t : TypeId} {w w' : World} {g n R : Nat} (h : Row k B t w g n R) (e : w'.heap[g]? = w.heap[g]?) : Row k B t w' g n R := ⟨h.1.of_block e, h.2⟩
theorem Row.lt {k : IntKind} {B : Nat} {t : TypeId} {w : World} {g n R : Nat} (h : Row k B t w g n R) : g < w.heap.size := h.1.lt
/-- A digit is put where it belongs. -/
theorem Row.set {k : IntKind} {B : Nat} {t : TypeId} {w : World} {g n R : Nat} (h : Row k B t w g n R) (i d : Nat) (R' : Nat) (hR : R' < B ^ n)
    (hd : ∀ j, dig B R' j = if j = i then d else dig B R j) : Row k B t (w.setCell ⟨g, i, none⟩ (.int k (d : Nat))) g n R' :=
  ⟨(h.1.set i (.int k (d : Nat))).congr fun j hj => by
    show (if j = i then _ else _) = _
    rw [hd j]
    split <;> rfl, hR⟩
theorem Row.next {k : IntKind} {B : Nat} {t : TypeId} {w : World} {g n S i : Nat} (hB : 0 < B) (h : Row k B t w g n (S % B ^ i)) (hi : i < n) : Row k B t (w.setCell ⟨g, i, none⟩ (.int k (dig B S i : Nat))) g n (S % B ^ (i + 1)) :=
  h.set i _ _ (mod_lt_pow hB S (by omega)) (dig_mod_succ hB S i)
theorem Row.num' {k : IntKind} {B : Nat} {t : TypeId} {w : World} {g n R : Nat} (h : Row k B t w g n R) (hn : n ≤ 50000) : Num k B w (.slice (some ⟨g, 0, none⟩) n n) R n := h.num (by omega)

/-! ### Rows that grow by append -/
/-- The first n digits of Z, as cells. -/
def digs (k : IntKind) (B Z n : Nat) : List Value := (List.range n).map fun i => .int k (dig B Z i : Nat)
theorem digs_length (k : IntKind) (B Z n : Nat) : (digs k B Z n).length = n := by simp [digs]
theorem digs_zero (k : IntKind) (B Z : Nat) : digs k B Z 0 = [] := rfl
theorem digs_succ (k : IntKind) (B Z n : Nat) : digs k B Z n ++ [.int k (dig B Z n : Nat)] = digs k B Z (n + 1) := by simp [digs, List.range_succ]
theorem digs_get (k : IntKind) (B Z n j : Nat) : (digs k B Z n)[j]? = if j < n then some (.int k (dig B Z j : Nat)) else none := by
  unfold digs
  by_cases h : j < n
  · simp [h]
  · simp [h]
theorem digs_congr {k : IntKind} {B Z Y n : Nat} (h : ∀ i, i < n → dig B Z i = dig B Y i) : digs k B Z n = digs k B Y n := by
  unfold digs
  refine List.map_congr_left fun i hi => ?_
  rw [h i (by simpa using hi)]
theorem digs_oneCell (k : IntKind) (B Z n : Nat) : ∀ u ∈ digs k B Z n, u.oneCell' = true := by
  intro u hu
  simp only [digs, List.mem_map] at hu
  obtain ⟨i, _, rfl⟩ := hu
  rfl
/-- The row that v leads to is the call's own, from block base on; it holds the first n digits of Z. -/
def OwnD (k : IntKind) (B : Nat) (t : TypeId) (w : World) (base : Nat) (v : Value) (Z n : Nat) : Prop := w.ownsRow base t 1 v n (digs k B Z n)
theorem OwnD.row {k : IntKind} {B : Nat} (hB : 0 < B) {t : TypeId} {w : World} {base : Nat} {v : Value} {Z n : Nat} (h : OwnD k B t w base v Z n) :
    (v = .slice none 0 0 ∧ n = 0) ∨ ∃ g c, v = .slice (some ⟨g, 0, none⟩) n c ∧ base ≤ g ∧ n ≤ c ∧ c ≤ 9223372036854775807 ∧ Row k B t w g n (Z % B ^ n) := by
  obtain ⟨hl, h | ⟨g, cap, cur, e, hb, hh, hn, hm, hs, hx⟩⟩ := h
  · exact .inl h
  · refine .inr ⟨g, cap, e, hb, hn, by simpa [maxLen] using hm, ⟨cur, hh, by omega, fun i hi => ?_⟩, Nat.mod_lt _ (Nat.pow_pos hB)⟩
    have h1 := digs_get k B Z n i
    rw [if_pos hi, ← hx, List.getElem?_take, if_pos (by omega)] at h1
    show cur[i]? = some (.int k (dig B (Z % B ^ n) i : Nat))
    rw [dig_mod hB, if_pos hi, ← h1]
    simp
theorem OwnD.num {k : IntKind} {B : Nat} (hB : 0 < B) {t : TypeId} {w : World} {base : Nat} {v : Value} {Z n : Nat} (h : OwnD k B t w base v Z n) : Num k B w v (Z % B ^ n) n := by
  rcases h.row hB with ⟨rfl, rfl⟩ | ⟨g, c, rfl, _, hn, hc, hr⟩
  · rw [Nat.pow_zero, Nat.mod_one]
    exact Num.nil ..
  · exact hr.numc c hn hc
theorem OwnD.num' {k : IntKind} {B : Nat} (hB : 0 < B) {t : TypeId} {w : World} {base : Nat} {v : Value} {Z n : Nat} (h : OwnD k B t w base v Z n) (hz : Z < B ^ n) : Num k B w v Z n := by
  have := h.num hB
  rwa [Nat.mod_eq_of_lt hz] at this
/-- What make lays, with room to spare. -/
theorem OwnD.made {k : IntKind} {B Z l c : Nat} (t : TypeId) (w : World) (base : Nat) (hb : base ≤ w.heap.size) (hlc : l ≤ c) (hc : c ≤ 50000) (hz : ∀ i, i < l → dig B Z i = 0) :
    OwnD k B t (w.alloc (.cells (madeCells #[.int k 0] c) t)) base (.slice (some ⟨w.heap.size, 0, none⟩) l c) Z l := by
  refine ⟨by rw [digs_length, Nat.mul_one], .inr ⟨w.heap.size, c, _, rfl, hb, heap_alloc_new w _, hlc, by simp [maxLen]; omega, by rw [size_madeCells (#[Value.int k 0]) c, Nat.mul_one], ?_⟩⟩
  rw [toList_madeCells_one, Nat.mul_one, List.take_replicate, Nat.min_eq_left hlc]
  apply List.ext_getElem?
  intro j
  rw [digs_get, List.getElem?_replicate]
  by_cases h : j < l
  · rw [if_pos h, if_pos h, hz j h]; rfl
  · rw [if_neg h, if_neg h]

/-- append of one digit. -/
theorem wpList_append_OwnD {P : Program} (w : World) {ops : Array Oper} {rest : List Oper} {o : Oper} {a : Act} {Q : Exit → Act → World → Prop} (hgd : o.guard = none) (s x : Operand) (t e : TypeId)
    (ho : o.op = .call { callee := .builtin .append, args := #[s, x], argTypes := #[t, t] }) (k : IntKind) (B bytes : Nat)
    (ht : P.underlying t = some (.slice e)) (hinfo : (P.info? e).map (fun i => (i.zero, i.size, i.bytes)) = some (some (.int k 0), 1, bytes))
    (base : Nat) (v : Value) (Z n : Nat) (hs : a.eval s = v) (hown : OwnD k B e w base v Z n) (ad : Addr) (c : Nat) (hx : a.eval x = .slice (some ad) 1 c)
    (hcell : w.cell? ad = some (.int k (dig B Z n : Nat))) (hn : n + 1 ≤ 50000) (hby : bytes ≤ 8) (hbase : base ≤ w.heap.size)
    (h : ∀ v' w', OwnD k B e w' base v' Z (n + 1) → w.grownBy w' v.ownBlock → wpList P ops Q rest (a.put o.dst v') w') : wpList P ops Q (o :: rest) a w := by
  obtain ⟨i0, hi, hz0, hz1, hz2⟩ := info_parts hinfo
  refine wpList_append_own w hgd s x t ho base e i0 (.int k 0) 1 bytes ht hi hz0 hz1 hz2 rfl (by decide) v n (digs k B Z n) hs hown ad 1 c [.int k (dig B Z n : Nat)] hx rfl ?_ ?_ ?_ ?_ hbase ?_
  · intro j u hj
    match j, hj with
    | 0, hj =>
      simp only [List.getElem?_cons_zero, Option.some.injEq] at hj
      subst hj
      rw [add_zero']
      exact hcell
    | j + 1, hj => simp at hj
  · intro u hu
    simp only [List.mem_singleton] at hu
    subst hu
    rfl
  · simp [maxLen]; omega
  · have := Nat.mul_le_mul hn hby
    omega
  · intro v' w' h1 h2 _
    rw [digs_succ] at h1
    exact h v' w' h1 h2
theorem digs_add (k : IntKind) (B Z n m : Nat) : digs k B Z n ++ ((List.range m).map fun j => Value.int k (dig B Z (n + j) : Nat)) = digs k B Z (n + m) := by
  simp [digs, List.range_add]
/-- append of a row of digits. -/
theorem wpList_append_OwnDs {P : Program} (w : World) {ops : Array Oper} {rest : List Oper} {o : Oper} {a : Act} {Q : Exit → Act → World → Prop} (hgd : o.guard = none) (s x : Operand) (t e : TypeId)
    (ho : o.op = .call { callee := .builtin .append, args := #[s, x], argTypes := #[t, t] }) (k : IntKind) (B bytes : Nat)
    (ht : P.underlying t = some (.slice e)) (hinfo : (P.info? e).map (fun i => (i.zero, i.size, i.bytes)) = some (some (.int k 0), 1, bytes))
    (base : Nat) (v : Value) (Z n m : Nat) (hs : a.eval s = v) (hown : OwnD k B e w base v Z n) (ad : Addr) (c : Nat) (hx : a.eval x = .slice (some ad) m c)
    (hcell : ∀ j, j < m → w.cell? (ad.add j) = some (.int k (dig B Z (n + j) : Nat))) (hn : n + m ≤ 50000) (hby : bytes ≤ 8) (hbase : base ≤ w.heap.size)
    (h : ∀ v' w', OwnD k B e w' base v' Z (n + m) → w.grownBy w' v.ownBlock → wpList P ops Q rest (a.put o.dst v') w') : wpList P ops Q (o :: rest) a w := by
  obtain ⟨i0, hi, hz0, hz1, hz2⟩ := info_parts hinfo
  refine wpList_append_own w hgd s x t ho base e i0 (.int k 0) 1 bytes ht hi hz0 hz1 hz2 rfl (by decide) v n (digs k B Z n) hs hown ad m c ((List.range m).map fun j => Value.int k (dig B Z (n + j) : Nat)) hx (by simp) ?_ ?_ ?_ ?_ hbase ?_
  · intro j u hj
    simp only [List.getElem?_map, Option.map_eq_some_iff] at hj
    obtain ⟨i, hi, rfl⟩ := hj
    have hlt : j < m := by
      apply Classical.byContradiction
      intro hn
      rw [List.getElem?_eq_none (by simp; omega)] at hi
      cases hi
    rw [List.getElem?_range hlt] at hi
    cases hi
    exact hcell j hlt
  · intro u hu
    simp only [List.mem_map] at hu
    obtain ⟨i, _, rfl⟩ := hu
    rfl
  · simp [maxLen]; omega
  · have := Nat.mul_le_mul hn hby
    omega
  · intro v' w' h1 h2 _
    rw [digs_add] at h1
    exact h v' w' h1 h2
theorem wrap_shl (x s : Nat) : IntKind.u64.wrap ((x : Int) * 2 ^ s) = ((x * 2 ^ s % B64 : Nat) : Int) := by
  rw [IntKind.wrap_u64, B64_eq]
  have : ((x : Int) * 2 ^ s) = ((x * 2 ^ s : Nat) : Int) := by simp
  rw [this]
  omega
theorem quiet_eq {P : Program} {f : FuncId} {args : Array Value} {w : World} {n : Nat} {v : Value}
    (h : Calls P f args (w.drewN n) fun e w' => e = .returned v ∧ w.drewN n = w') : Calls P f args (w.drewN n) fun e w'' => e = .returned v ∧ ∃ m, w'' = w.drewN m :=
  h.mono fun _ _ ⟨he, hm⟩ => ⟨he, n, hm.symm⟩
theorem Num.drewN {k : IntKind} {B : Nat} {w : World} {v : Value} {X n : Nat} (h : Num k B w v X n) (m : Nat) : Num k B (w.drewN m) v X n := h
theorem wrap_u32 (a : Nat) (h : a < 4294967296) : IntKind.u32.wrap (a : Int) = (a : Int) := by rw [IntKind.wrap_u32]; omega
theorem exists_digits {B : Nat} (hB : 0 < B) (f : Nat → Nat) : ∀ n, (∀ j, j < n → f j < B) → ∃ X, X < B ^ n ∧ ∀ j, j < n → dig B X j = f j
  | 0, _ => ⟨0, by simp, fun j hj => by omega⟩
  | n + 1, hf => by
    obtain ⟨X, hX, hd⟩ := exists_digits hB f n fun j hj => hf j (by omega)
    have hp := Nat.pow_pos (n := n) hB
    have hn := hf n (by omega)
    have hdiv : (X + f n * B ^ n) / B ^ n = f n := by rw [Nat.add_mul_div_right _ _ hp, Nat.div_eq_of_lt hX, Nat.zero_add]
    have hmod : (X + f n * B ^ n) % B ^ n = X := by rw [Nat.add_mul_mod_self_right, Nat.mod_eq_of_lt hX]
    refine ⟨X + f n * B ^ n, ?_, fun j hj => ?_⟩
    · have : (f n + 1) * B ^ n ≤ B * B ^ n := Nat.mul_le_mul_right _ hn
      rw [Nat.pow_succ, Nat.mul_comm (B ^ n) B]
      rw [Nat.add_mul] at this
      omega
    · by_cases h : j = n
      · subst h
        unfold dig
        rw [hdiv, Nat.mod_eq_of_lt hn]
      · have h1 := dig_mod hB (X + f n * B ^ n) n j
        rw [if_pos (by omega), hmod] at h1
        rw [← h1]
        exact hd j (by omega)
theorem wf_u64 (z : Int) (h : (Lit.int .u64 z).wf = true) : 0 ≤ z ∧ z < 18446744073709551616 := by
  simp [Lit.wf, IntKind.min, IntKind.max, IntKind.signed, IntKind.bits] at h
  omega
/-- A slice of integers that came in is a number. -/
theorem num_of_row {w : World} {a : Option Addr} {len cap : Nat} {zs : List Int}
    (h : (a = none ∧ len = 0 ∧ cap = 0 ∧ zs = []) ∨ ∃ x, a = some x ∧ len ≤ cap ∧ cap ≤ maxLen ∧ zs.length = cap ∧ (∀ i, i < zs.length → w.cell? (x.add i) = some (.int .u64 (zs.getD i 0))) ∧ ∀ n ∈ zs, (Lit.int .u64 n).wf = true) :
    ∃ X, Num .u64 B64 w (.slice a len cap) X len := by
  rcases h with ⟨rfl, rfl, rfl, rfl⟩ | ⟨x, rfl, hle, hm, hz, hc, hw⟩
  · exact ⟨0, Num.nil ..⟩
  · have hr : ∀ j, j < len → 0 ≤ zs.getD j 0 ∧ zs.getD j 0 < 18446744073709551616 := by
      intro j hj
      have hj' : j < zs.length := by omega
      have hmem : zs.getD j 0 ∈ zs := by
        rw [List.getD_eq_getElem?_getD, List.getElem?_eq_getElem hj', Option.getD_some]
        exact List.getElem_mem hj'
      exact wf_u64 _ (hw _ hmem)
    obtain ⟨X, hX, hd⟩ := exists_digits B64_pos (fun j => (zs.getD j 0).toNat) len (fun j hj => by have := hr j hj; rw [B64_eq]; omega)
    refine ⟨X, some x, cap, rfl, hX, hle, by simpa [maxLen] using hm, fun _ => ⟨x, rfl, fun j hj => ?_⟩⟩
    rw [hc j (by omega), hd j hj, Int.toNat_of_nonneg (hr j hj).1]
theorem dig_small {B x : Nat} (h : x < B) : dig B x 0 = x := by simp [dig, Nat.mod_eq_of_lt h]
/-- A literal of one digit. -/
theorem Num.one {k : IntKind} {B x : Nat} {w : World} {g : Nat} (h : x < B) (hc : w.cell? ⟨g, 0, none⟩ = some (.int k (x : Nat))) : Num k B w (.slice (some ⟨g, 0, none⟩) 1 1) x 1 :=
  ⟨_, 1, rfl, by simpa using h, Nat.le_refl _, by omega, fun _ => ⟨_, rfl, fun j hj => by
    obtain rfl : j = 0 := by omega
    rw [add_zero', dig_small h]; exact hc⟩⟩
/-- A literal of two digits, the higher one nought. -/
theorem Num.one0 {k : IntKind} {B x : Nat} {w : World} {g : Nat} (hB : 2 ≤ B) (h : x < B) (hc : w.cell? ⟨g, 0, none⟩ = some (.int k (x : Nat))) (hd : w.cell? ⟨g, 1, none⟩ = some (.int k 0)) : Num k B w (.slice (some ⟨g, 0, none⟩) 2 2) x 2 :=
  ⟨_, 2, rfl, Nat.lt_of_lt_of_le h (by rw [Nat.pow_two]; exact Nat.le_mul_of_pos_right _ (by omega)), Nat.le_refl _, by omega, fun _ => ⟨_, rfl, fun j hj => by
    rw [add_none, Nat.zero_add]
    rcases (by omega : j = 0 ∨ j = 1) with rfl | rfl
    · rw [dig_small h]; exact hc
    · rw [dig_ge (by omega) (show x < B ^ 1 by simpa using h) (Nat.le_refl _)]; exact hd⟩⟩
theorem IsLen.base (B : Nat) (hB : 2 ≤ B) : IsLen B B 2 := by
  refine ⟨by rw [Nat.pow_two]; have := Nat.mul_le_mul_left B hB; omega, fun m hm => ?_⟩
  match m, hm with
  | 0, hm => simp at hm; omega
  | 1, hm => simp at hm
  | m + 2, _ => omega
/-- The one cell of a block that has just been made. -/
theorem cell_new (w : World) (v : Value) (t : TypeId) : (w.alloc (.cells #[v] t)).cell? ⟨w.heap.size, 0, none⟩ = some v := by
  rw [World.cell?_alloc_at _ _ _ _ rfl]; rfl
theorem cell_newN (w : World) (n : Nat) (v : Value) (t : TypeId) : ((w.drewN n).alloc (.cells #[v] t)).cell? ⟨w.heap.size, 0, none⟩ = some v := cell_new (w.drewN n) v t
theorem wrap_u64 (a : Nat) (h : a < B64) : IntKind.u64.wrap (a : Int) = (a : Int) := by rw [B64_eq] at h; rw [IntKind.wrap_u64]; omega
theorem shr_low (x s : Nat) (hs : s < 64) : ((x : Int) / 2 / 2 ^ (63 - s)) = ((x / 2 ^ (64 - s) : Nat) : Int) := by
  have e : 2 ^ (64 - s) = 2 * 2 ^ (63 - s) := by rw [Nat.mul_comm, ← Nat.pow_succ]; congr 1; omega
  rw [e, ← Nat.div_div_eq_div_mul]
  simp
theorem or_u64 (x y : Nat) (hx : x < B64) (hy : y < B64) : bits .or .u64 (x : Int) (y : Int) = ((x ||| y : Nat) : Int) := bits_or_u64_nat x y (by rw [B64_eq] at hx; exact hx) (by rw [B64_eq] at hy; exact hy)
theorem OwnD.lower {k : IntKind} {B : Nat} {t : TypeId} {w : World} {base base' : Nat} {v : Value} {Z n : Nat} (h : OwnD k B t w base v Z n) (hb : base' ≤ base) : OwnD k B t w base' v Z n := by
  obtain ⟨hl, h | ⟨g, cap, cur, e, hbb, r⟩⟩ := h
  · exact ⟨hl, .inl h⟩
  · exact ⟨hl, .inr ⟨g, cap, cur, e, by omega, r⟩⟩
/-- append of one digit, there being room. -/
theorem wpList_append_fitsD {P : Program} (w : World) {ops : Array Oper} {rest : List Oper} {o : Oper} {a : Act} {Q : Exit → Act → World → Prop} (hgd : o.guard = none) (s x : Operand) (t e : TypeId)
    (ho : o.op = .call { callee := .builtin .append, args := #[s, x], argTypes := #[t, t] }) (k : IntKind) (B bytes : Nat)
    (ht : P.underlying t = some (.slice e)) (hinfo : (P.info? e).map (fun i => (i.zero, i.size, i.bytes)) = some (some (.int k 0), 1, bytes))
    (base : Nat) (g cap : Nat) (Z n : Nat) (hs : a.eval s = .slice (some ⟨g, 0, none⟩) n cap) (hown : OwnD k B e w base (.slice (some ⟨g, 0, none⟩) n cap) Z n) (ad : Addr) (c : Nat) (hx : a.eval x = .slice (some ad) 1 c)
    (hcell : w.cell? ad = some (.int k (dig B Z n : Nat))) (hn : n + 1 ≤ cap)
    (h : ∀ w', OwnD k B e w' base (.slice (some ⟨g, 0, none⟩) (n + 1) cap) Z (n + 1) → w.grownBy w' (some g) → wpList P ops Q rest (a.put o.dst (.slice (some ⟨g, 0, none⟩) (n + 1) cap)) w') : wpList P ops Q (o :: rest) a w := by
  obtain ⟨i0, hi, hz0, hz1, hz2⟩ := info_parts hinfo
  refine wpList_append_fits w hgd s x t ho base e i0 1 ht hi hz1 g n cap (digs k B Z n) hs hown ad 1 c [.int k (dig B Z n : Nat)] hx rfl ?_ ?_ hn ?_
  · intro j u hj
    match j, hj with
    | 0, hj =>
      simp only [List.getElem?_cons_zero, Option.some.injEq] at hj
      subst hj
      rw [add_zero']
      exact hcell
    | j + 1, hj => simp at hj
  · intro u hu
    simp only [List.mem_singleton] at hu
    subst hu
    rfl
  · intro w' h1 h2
    rw [digs_succ] at h1
    exact h w' h1 h2
theorem Row.grown {k : IntKind} {B : Nat} {t : TypeId} {w w' : World} {g n R : Nat} {row : Option Nat} (h : Row k B t w g n R) (hg : w.grownBy w' row) (hne : some g ≠ row) : Row k B t w' g n R := h.of_block (hg.block g h.lt hne)
theorem Row.alloc {k : IntKind} {B : Nat} {t : TypeId} {w : World} {g n R : Nat} (h : Row k B t w g n R) (o : Obj) : Row k B t (w.alloc o) g n R := h.of_block (Below.heap_alloc w o g h.lt)
theorem OwnD.empty {k : IntKind} {B : Nat} {t : TypeId} (w : World) (base : Nat) (hb : base ≤ w.heap.size) (Z : Nat) : OwnD k B t (w.alloc (.cells #[] t)) base (.slice (some ⟨w.heap.size, 0, none⟩) 0 0) Z 0 := World.ownsRow_made w #[] 0 hb (Nat.zero_le _) (by simp)
/-- What an append leaves of everything else. -/
theorem OwnD.base {k : IntKind} {B : Nat} {t : TypeId} {w : World} {base : Nat} {v : Value} {Z n : Nat} (h : OwnD k B t w base v Z n) : ∀ j, v.ownBlock = some j → base ≤ j := fun j hj => (World.ownsRow.lt h j hj).1
theorem OwnD.alloc {k : IntKind} {B : Nat} {t : TypeId} {w : World} {base : Nat} {v : Value} {Z n : Nat} (h : OwnD k B t w base v Z n) (o : Obj) : OwnD k B t (w.alloc o) base v Z n := World.ownsRow.alloc h o
theorem OwnD.drewN {k : IntKind} {B : Nat} {t : TypeId} {w : World} {base : Nat} {v : Value} {Z n : Nat} (h : OwnD k B t w base v Z n) (m : Nat) : OwnD k B t (w.drewN m) base v Z n := h
theorem OwnD.congr {k : IntKind} {B : Nat} {t : TypeId} {w : World} {base : Nat} {v : Value} {Z Y n : Nat} (h : OwnD k B t w base v Z n) (e : ∀ i, i < n → dig B Z i = dig B Y i) : OwnD k B t w base v Y n := by
  unfold OwnD at h ⊢
  rwa [← digs_congr e]
theorem OwnD.nil {k : IntKind} {B : Nat} {t : TypeId} {w : World} {base : Nat} (Z : Nat) : OwnD k B t w base (.slice none 0 0) Z 0 := World.ownsRow_nil ..
end Go.Proofs.YtmobnjlbbhhedaaGreatDoor
