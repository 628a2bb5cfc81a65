/- split.by once more: where its quotient lies. -/
import Derived.Test.YtmobnjlbbhhedaaGreatDoorDivB
import Derived.Test.YtmobnjlbbhhedaaGreatDoorText
import Derived.Test.YtmobnjlbbhhedaaGreatDoorDivH
import Derived.Test.YtmobnjlbbhhedaaGreatDoorDec
import Derived.Test.YtmobnjlbbhhedaaGreatDoorMemC
import Derived.Lib.Join
import Derived.Laws.Concat
import Derived.Lib.RowBridge
set_option linter.unusedVariables false
set_option linter.unusedSimpArgs false
namespace Go.Proofs.YtmobnjlbbhhedaaGreatDoor
open Go.RowKit

set_option maxHeartbeats 1000000 in
set_option maxRecDepth 100000 in
theorem byA_calls (v : Value) (X n d : Nat) (w : World) (h : Num .u64 B64 w v X n) (hn : n ≤ 20000) (hd0 : 0 < d) (hd : d < 18446744073709551616) :
    Calls Tryz.prog 59 #[v, .int .u64 d] w fun e w' => ∃ r, e = .returned (.tuple #[.slice (some ⟨w.heap.size, 0, none⟩) r r, .int .u64 (X % d : Nat)]) ∧ Num .u64 B64 w' (.slice (some ⟨w.heap.size, 0, none⟩) r r) (X / d) r ∧ IsLen B64 (X / d) r ∧ Below w.heap.size w w' := by
  obtain ⟨A, c, rfl, hnc, hc⟩ := h.form
  have H := Lib.hid h
  clear h
  have D := Lib.hid (fun l x (hl : l < d) (hx : x < B64) w => div64_calls l x d w (by rw [← B64_eq]; exact hx) hd hl)
  have hlt : Hid (X / d < B64 ^ n) := Nat.lt_of_le_of_lt (Nat.div_le_self _ _) H.out.lt
  have hd0' := Lib.hid hd0
  clear hd hd0
  have hmk := run_make_row' (P := Tryz.prog) 22 79 (.int .u64 0) 8 Tryz.underlying22 info64 rfl .i64 .i64 n (by omega) (by omega)
  go_enter Tryz.func59, Tryz.ntmps59
  go_wp2_with fail
  clear hmk
  go_loopw [7, 8] (fun v7 v8 wr => ∃ k l : Nat, v8 = .int .i64 ((k : Int) - 1) ∧ k ≤ n ∧ v7 = .int .u64 l ∧ Hid (l = X / B64 ^ k % d) ∧ Hid (Row .u64 B64 79 wr w.heap.size n (mix B64 0 (X / d) k)) ∧ Hid (Below w.heap.size w wr)) (fun _ v _ => (intOf v + 1).toNat)
  case atStart =>
    refine ⟨n, 0, by go_num, Nat.le_refl _, rfl, ?_, ?_, (Below.refl _ _).alloc (Nat.le_refl _) _⟩
    · show 0 = _
      rw [Nat.div_eq_of_lt H.out.lt, Nat.zero_mod]
    · rw [mix_all B64_pos (Nat.pow_pos B64_pos) hlt.out]
      exact Row.made B64_pos _ _ _
  case round =>
    obtain ⟨k, l, rfl, hk, rfl, hl, hrow, hbel⟩ := hrel
    cases k with
    | succ j =>
      obtain ⟨ad, rfl, hca⟩ := (H.out.below hbel.out).cell (show j < n by omega)
      have hfz := hrow.out.frozen j
      have hcell := hrow.out.cell (show j < n by omega)
      obtain ⟨q1, q2⟩ := quo_digit (X := X) (k := j) B64_pos hd0'.out
      rw [← hl.out] at q1 q2
      have dd := D.out l (dig B64 X j) (by rw [hl.out]; exact Nat.mod_lt _ hd0'.out) (dig_lt B64_pos X j)
      rw [← B64_eq, q1, q2] at dd
      have dd' := Lib.hid dd
      obtain ⟨l2, hl2⟩ : ∃ l2, l2 = X / B64 ^ j % d := ⟨_, rfl⟩
      rw [← hl2] at dd'
      have hl2' := Lib.hid hl2
      clear dd q1 q2 hl hl2
      go_wp2_with fail
      refine (dd'.out _).mono ?_
      rintro e w' ⟨rfl, nd, rfl⟩
      have hrow2 : Hid (Row .u64 B64 79 ((wr.drewN nd).setCell ⟨w.heap.size, j, none⟩ (.int .u64 (dig B64 (X / d) j : Nat))) w.heap.size n (mix B64 0 (X / d) j)) :=
        (hrow.out.drewN nd).set j _ (mix B64 0 (X / d) j) (mix_lt B64_pos (by omega) hlt.out) (fun t => mix_down B64_pos _ _ j t)
      have hbel2 : Hid (Below w.heap.size w ((wr.drewN nd).setCell ⟨w.heap.size, j, none⟩ (.int .u64 (dig B64 (X / d) j : Nat)))) := (below_drewN hbel.out nd).setCell (Nat.le_refl _) _
      clear hrow hbel dd'
      go_wp2_with fail
      go_roundw
      case rel => exact ⟨j, l2, by go_num, by omega, rfl, hl2', hrow2, hbel2⟩
      case measure => simp [intOf]; try omega
    | zero =>
      have hnum := hrow.out.num (by omega)
      rw [mix_zero] at hnum
      have hnum' := Lib.hid hnum
      have hlf : Hid (l = X % d) := by
        have := hl.out
        rw [Nat.pow_zero, Nat.div_one] at this
        exact this
      clear hnum hrow hl
      go_wp2_with fail
      refine (natPlain_walk _ n n (X / d) wr hnum'.out).mono ?_
      rintro e w' ⟨r, rfl, rfl, hr, hlc⟩
      have HC' := Lib.hid (hnum'.out.take hr hlc.1 r (Nat.le_refl _) hr)
      have hlc' := Lib.hid hlc
      clear hlc
      go_wp2_with fail
      go_ret2
      exact ⟨r, by rw [← hlf.out]; rfl, HC'.out, hlc'.out, hbel.out⟩
theorem Num.zeroAt (k : IntKind) (B : Nat) (w : World) (C : Option Addr) : Num k B w (.slice C 0 0) 0 0 := ⟨C, 0, rfl, by simp, Nat.le_refl _, by omega, fun h => by omega⟩
/-- A number stays where another block grows. -/
theorem Num.grown {k : IntKind} {B X n g c : Nat} {w w' : World} {row : Option Nat} (h : Num k B w (.slice (some ⟨g, 0, none⟩) n c) X n) (hg : w.grownBy w' row) (hne : row ≠ some g) : Num k B w' (.slice (some ⟨g, 0, none⟩) n c) X n := by
  obtain ⟨A', c', e, hx, h1, h2, hr⟩ := h
  cases e
  refine ⟨_, _, rfl, hx, h1, h2, fun h0 => ?_⟩
  obtain ⟨ad, ea, hc⟩ := hr h0
  cases ea
  refine ⟨_, rfl, fun j hj => ?_⟩
  have hcj := hc j hj
  have hlt := World.block_lt_of_cell? w _ hcj
  rw [add_none] at hlt hcj ⊢
  rw [← hcj]
  exact World.cell?_of_block (w := w) (hg.block g hlt (fun e => hne e.symm))
end Go.Proofs.YtmobnjlbbhhedaaGreatDoor

namespace Go.Proofs.YtmobnjlbbhhedaaGreatDoor
open Go.RowKit

/-- A text, as a value. -/
def str (l : List UInt8) : Value := .string ⟨l.toArray⟩
def OwnS (w : World) (base : Nat) (v : Value) (L : List (List UInt8)) : Prop := w.ownsRow base 9 1 v L.length (L.map str)
theorem OwnS.nil (w : World) (base : Nat) : OwnS w base (.slice none 0 0) [] := ⟨rfl, .inl ⟨rfl, rfl⟩⟩
theorem OwnS.below {w w' : World} {base : Nat} {v : Value} {L : List (List UInt8)} (h : OwnS w base v L) (hb : Below w.heap.size w w') : OwnS w' base v L := by
  obtain ⟨h1, h2⟩ := h
  refine ⟨h1, ?_⟩
  rcases h2 with h2 | ⟨g, cap, cur, e, hg, hh, h3⟩
  · exact .inl h2
  · obtain ⟨hlt, _⟩ := Array.getElem?_eq_some_iff.1 hh
    exact .inr ⟨g, cap, cur, e, hg, (hb.block g hlt).trans hh, h3⟩
theorem OwnS.form {w : World} {base : Nat} {v : Value} {L : List (List UInt8)} (h : OwnS w base v L) : ∃ a c, v = .slice a L.length c ∧ ∀ g, v.ownBlock = some g → base ≤ g := by
  obtain ⟨hl, ⟨rfl, h0⟩ | ⟨g, cap, cur, rfl, hb, _⟩⟩ := h
  · exact ⟨none, 0, by rw [h0], fun g hg => by cases hg⟩
  · exact ⟨_, _, rfl, fun g' hg => by cases hg; exact hb⟩
theorem OwnS.lt {w : World} {base : Nat} {v : Value} {L : List (List UInt8)} (h : OwnS w base v L) : ∀ g, v.ownBlock = some g → g < w.heap.size := by
  obtain ⟨hl, ⟨rfl, h0⟩ | ⟨g, cap, cur, rfl, hb, hh, _⟩⟩ := h
  · exact fun g hg => by cases hg
  · obtain ⟨hlt, _⟩ := Array.getElem?_eq_some_iff.1 hh
    exact fun g' hg => by cases hg; exact hlt
theorem str_app (x y : List UInt8) : Value.string ((⟨x.toArray⟩ : ByteArray) ++ ⟨y.toArray⟩) = str (x ++ y) := by
  unfold str
  rw [ByteArray.mk_append_mk]
theorem OwnS.row {w : World} {base : Nat} {v : Value} {L : List (List UInt8)} (h : OwnS w base v L) :
    (v = .slice none 0 0 ∧ L = []) ∨ ∃ g c, v = .slice (some ⟨g, 0, none⟩) L.length c ∧ base ≤ g ∧ L.length ≤ c ∧ OwnRow w g 9 L.length (fun i => str (L.getD i [])) := by
  obtain ⟨hl, h | ⟨g, cap, cur, e, hb, hh, hn, hm, hs, hx⟩⟩ := h
  · exact .inl ⟨h.1, List.length_eq_zero_iff.1 h.2⟩
  · refine .inr ⟨g, cap, e, hb, hn, cur, hh, by omega, fun i hi => ?_⟩
    have h1 : (L.map str)[i]? = some (str (L.getD i [])) := by
      rw [List.getElem?_map, List.getElem?_eq_getElem hi, List.getD_eq_getElem?_getD, List.getElem?_eq_getElem hi]
      rfl
    rw [← hx, List.getElem?_take, if_pos (by omega)] at h1
    rw [← h1]
    simp
theorem wpList_append_str {P : Program} (w : World) {ops : Array Oper} {rest : List Oper} {o : Oper} {a : Act} {Q : Exit → Act → World → Prop} (hgd : o.guard = none) (s x : Operand) (t : TypeId)
    (ho : o.op = .call { callee := .builtin .append, args := #[s, x], argTypes := #[t, t] })
    (ht : P.underlying t = some (.slice 9)) (hinfo : (P.info? 9).map (fun i => (i.zero, i.size, i.bytes)) = some (some (.string ⟨#[]⟩), 1, 16))
    (base : Nat) (v : Value) (L : List (List UInt8)) (hs : a.eval s = v) (hown : OwnS w base v L) (ad : Addr) (c : Nat) (hx : a.eval x = .slice (some ad) 1 c) (d : List UInt8)
    (hcell : w.cell? ad = some (str d)) (hn : L.length + 1 ≤ 50000) (hbase : base ≤ w.heap.size)
    (h : ∀ v' w', OwnS w' base v' (L ++ [d]) → w.grownBy w' v.ownBlock → wpList P ops Q rest (a.put o.dst v') w') : wpList P ops Q (o :: rest) a w := by
  obtain ⟨i0, hi, hz0, hz1, hz2⟩ := info_parts hinfo
  refine wpList_append_own w hgd s x t ho base 9 i0 (.string ⟨#[]⟩) 1 16 ht hi hz0 hz1 hz2 rfl (by decide) v L.length (L.map str) hs hown ad 1 c [str d] hx rfl ?_ ?_ ?_ ?_ hbase ?_
  · intro j u hj
    match j, hj with
    | 0, hj =>
      simp only [List.getElem?_cons_zero, Option.some.injEq] at hj
      subst hj
      rw [add_zero']
      exact hcell
    | j + 1, hj => simp at hj
  · intro u hu
    simp only [List.mem_singleton] at hu
    subst hu
    rfl
  · simp [maxLen]; omega
  · omega
  · intro v' w' h1 h2 _
    refine h v' w' ?_ h2
    have e1 : (L ++ [d]).length = L.length + 1 := by simp
    have e2 : (L ++ [d]).map str = L.map str ++ [str d] := by simp
    unfold OwnS
    rw [e1, e2]
    exact h1

theorem join_flat (xs : List (List UInt8)) : Lib.join xs [] = xs.flatten := by
  cases xs with
  | nil => rfl
  | cons x r => rw [Lib.join_cons]; simp [Lib.joinTail]
theorem size_str (l : List UInt8) : (⟨l.toArray⟩ : ByteArray).size = l.length := by simp [ByteArray.size]

theorem strs_getD (L : List (List UInt8)) : Lib.strsOf (fun i => ⟨(L.getD i []).toArray⟩) L.length = L := by
  apply List.ext_getElem?
  intro j
  unfold Lib.strsOf
  by_cases h : j < L.length
  · simp [h, List.getD_eq_getElem?_getD]
  · simp [h]
theorem digits_bound {X n : Nat} (h : X < B64 ^ n) : (Lib.decDigits X).length ≤ 64 * n + 1 := by
  have h4 : B64 ^ n = 2 ^ (64 * n) := by
    rw [show B64 = 2 ^ 64 from rfl, ← Nat.pow_mul]
  have h5 : 2 ^ (64 * n) ≤ 10 ^ (64 * n) := Nat.pow_le_pow_left (by decide) _
  have h6 : 10 ^ (64 * n) ≤ 10 ^ (64 * n + 1) := Nat.pow_le_pow_right (by decide) (by omega)
  have := congrArg List.length (pad_decs (64 * n) X (by omega))
  rw [decs_length] at this
  simp at this
  omega
theorem zeros_pad (n : Nat) : Lib.repeatL [48] n = List.replicate n 48 := by
  have := Lib.repeatL_replicate 48 1 n
  rw [Nat.mul_one] at this
  exact this
/-- What the loop of split.Text has: pieces of a number's text, the last digits first, and what is left of the number. -/
def Pieces (X : Nat) (L : List (List UInt8)) (M : Nat) : Prop :=
  (0 < M → M = X / 10 ^ (18 * L.length) ∧ L.reverse.flatten = decs (18 * L.length) X) ∧ (M = 0 → (X = 0 → L = []) ∧ (0 < X → L.reverse.flatten = Lib.decDigits X))
theorem Pieces.start (X : Nat) : Pieces X [] X :=
  ⟨fun _ => ⟨by simp, rfl⟩, fun h => ⟨fun _ => rfl, fun h2 => by omega⟩⟩
theorem Pieces.more {X M : Nat} {L : List (List UInt8)} (h : Pieces X L M) (hM : 0 < M / 10 ^ 18) : Pieces X (L ++ [decs 18 (M % 10 ^ 18)]) (M / 10 ^ 18) := by
  have hM0 : 0 < M := by
    rcases Nat.eq_zero_or_pos M with h0 | h0
    · rw [h0] at hM; simp at hM
    · exact h0
  obtain ⟨h1, h2⟩ := h.1 hM0
  have e : 18 * (L ++ [decs 18 (M % 10 ^ 18)]).length = 18 + 18 * L.length := by simp; omega
  have e2 : decs 18 (M % 10 ^ 18) = decs 18 M := decs_mod 18 18 M (by omega)
  refine ⟨fun _ => ⟨?_, ?_⟩, fun h0 => by omega⟩
  · rw [e, Nat.add_comm, Nat.pow_add, ← Nat.div_div_eq_div_mul, ← h1]
  · rw [e, decs_add 18 (18 * L.length) X, ← h1, ← h2, ← e2]
    simp
theorem Pieces.last {X M : Nat} {L : List (List UInt8)} (h : Pieces X L M) (hM0 : 0 < M) (hM : M / 10 ^ 18 = 0) : Pieces X (L ++ [Lib.decDigits (M % 10 ^ 18)]) 0 := by
  obtain ⟨h1, h2⟩ := h.1 hM0
  have hlt : M < 10 ^ 18 := by
    rcases Nat.lt_or_ge M (10 ^ 18) with h | h
    · exact h
    · have := Nat.div_pos h (by decide)
      omega
  have hX : 0 < X / 10 ^ (18 * L.length) := by rw [← h1]; exact hM0
  refine ⟨fun h0 => by omega, fun _ => ⟨fun h0 => ?_, fun _ => ?_⟩⟩
  · rw [h0, Nat.zero_div] at hX; omega
  · rw [decDigits_split (18 * L.length) X hX, ← h1, ← h2, Nat.mod_eq_of_lt hlt]
    simp
theorem Pieces.len {X M n : Nat} {L : List (List UInt8)} (h : Pieces X L M) (hM : 0 < M) (hX : X < B64 ^ n) : L.length ≤ 64 * n := by
  obtain ⟨h1, _⟩ := h.1 hM
  have h2 : 10 ^ (18 * L.length) ≤ X := by
    rcases Nat.lt_or_ge X (10 ^ (18 * L.length)) with h | h
    · rw [Nat.div_eq_of_lt h] at h1; omega
    · exact h
  have h3 : 2 ^ L.length ≤ 10 ^ (18 * L.length) := by
    rw [Nat.pow_mul]
    exact Nat.pow_le_pow_left (by decide) _
  have h4 : B64 ^ n = 2 ^ (64 * n) := by
    rw [show B64 = 2 ^ 64 from rfl, ← Nat.pow_mul]
  rw [h4] at hX
  have := (Nat.pow_lt_pow_iff_right (a := 2) (by omega)).1 (Nat.lt_of_le_of_lt h3 (Nat.lt_of_le_of_lt h2 hX))
  omega
end Go.Proofs.YtmobnjlbbhhedaaGreatDoor
