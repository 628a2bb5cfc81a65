/- The walk of outriggerref03.Text. -/
import Derived.Test.YtmobnjlbbhhedaaGreatDoorRefFa
import Derived.Test.YtmobnjlbbhhedaaGreatDoorStr
import Derived.Test.YtmobnjlbbhhedaaGreatDoorDivB
import Derived.Test.YtmobnjlbbhhedaaGreatDoorRefQ
import Derived.Laws.IdiomStrings
set_option linter.unusedVariables false
set_option linter.unusedSimpArgs false
namespace Go.Proofs.YtmobnjlbbhhedaaGreatDoor
open Go.RowKit

theorem OwnRow.le {w : World} {g t n m : Nat} {f : Nat → Value} (h : OwnRow w g t n f) (hm : m ≤ n) : OwnRow w g t m f := by
  obtain ⟨c, hb, hn, hc⟩ := h
  exact ⟨c, hb, by omega, fun i hi => hc i (by omega)⟩
theorem Row.le {k : IntKind} {B : Nat} {t : TypeId} {w : World} {g n m R : Nat} (h : Row k B t w g n R) (hm : m ≤ n) (hR : R < B ^ m) : Row k B t w g m R := ⟨h.1.le hm, hR⟩
theorem ten_dig (Z j : Nat) : (Z / B16 ^ (j + 1) % 10 * 65536 + dig B16 Z j) / 10 = dig B16 (Z / 10) j ∧ (Z / B16 ^ (j + 1) % 10 * 65536 + dig B16 Z j) % 10 = Z / B16 ^ j % 10 := by
  have := quo_digit (B := B16) (X := Z) (d := 10) (k := j) B16_pos (by decide)
  rw [B16_eq] at this ⊢
  exact this
theorem run_append_none_c {P : Program} {w : World} (base : Nat) (t ty e : TypeId) (i : TypeInfo) (size : Nat) (ht : P.underlying t = some (.slice e)) (hi : P.info? e = some i)
    (v : Value) (n : Nat) (xs : List Value) (hown : w.ownsRow base e size v n xs) (c : Nat) :
    (Builtin.append_ #[t, t] ty #[v, .slice none 0 c]).run P w = .ok v w := by
  rcases hown.2 with ⟨rfl, rfl⟩ | ⟨g, cap, cur, rfl, _, _, hnc, _⟩
  · simp [Builtin.append_, run_underlying ht, sizeOf, typeInfo, hi, Builtin.lenOf, Builtin.firstCells]
  · simp [Builtin.append_, run_underlying ht, sizeOf, typeInfo, hi, Builtin.lenOf, Builtin.firstCells, hnc, storeCells]
/-- append of whatever slice of digits. -/
theorem wpList_append_OwnDz {P : Program} (w : World) {ops : Array Oper} {rest : List Oper} {o : Oper} {a : Act} {Q : Exit → Act → World → Prop} (hgd : o.guard = none) (s x : Operand) (t e : TypeId)
    (ho : o.op = .call { callee := .builtin .append, args := #[s, x], argTypes := #[t, t] }) (k : IntKind) (B bytes : Nat)
    (ht : P.underlying t = some (.slice e)) (hinfo : (P.info? e).map (fun i => (i.zero, i.size, i.bytes)) = some (some (.int k 0), 1, bytes))
    (base : Nat) (v : Value) (Z n m : Nat) (hs : a.eval s = v) (hown : OwnD k B e w base v Z n) (A : Option Addr) (c : Nat) (hx : a.eval x = .slice A m c) (hnil : A = none → m = 0)
    (hcell : ∀ ad, A = some ad → ∀ j, j < m → w.cell? (ad.add j) = some (.int k (dig B Z (n + j) : Nat))) (hn : n + m ≤ 50000) (hby : bytes ≤ 8) (hbase : base ≤ w.heap.size)
    (h : ∀ v' w', OwnD k B e w' base v' Z (n + m) → w.grownBy w' v.ownBlock → wpList P ops Q rest (a.put o.dst v') w') : wpList P ops Q (o :: rest) a w := by
  cases A with
  | some ad => exact wpList_append_OwnDs w hgd s x t e ho k B bytes ht hinfo base v Z n m hs hown ad c hx (hcell ad rfl) hn hby hbase h
  | none =>
    obtain rfl := hnil rfl
    obtain ⟨i0, hi, hz0, hz1, hz2⟩ := info_parts hinfo
    refine wpList_plain hgd fun K hK => ?_
    have hrun := run_append_none_c (P := P) (w := w) base t o.type e i0 1 ht hi v n _ hown c
    unfold Oper.wp
    simp [execOp, ho, resolve, invoke, builtin, hs, hx, hrun, Result.andThen]
    exact hK _ _ (h v w hown (World.grownBy.refl w _))

set_option maxHeartbeats 4000000 in
set_option maxRecDepth 100000 in
theorem refText_calls (v : Value) (Z : Int) (L0 : Nat) (w : World) (h : RNum w v Z L0) (hL : L0 ≤ 40000) :
    Calls Tryz.prog 44 #[v] w fun e w' => e = .returned (str (Lib.itoa Z)) ∧ Below w.heap.size w w' := by
  obtain ⟨neg, A, m, c, X, rfl, hN, hl, hm, hZ, hpos⟩ := h
  have hit : Hid (Lib.itoa Z = if neg then 45 :: Lib.decDigits X else Lib.decDigits X) := by
    show _ = _
    rw [hZ]
    have := itoa_sgn neg X
    unfold sgn at this
    rw [this]
    cases neg with
    | false => rfl
    | true => simp [hpos rfl]
  have hpos' := Lib.hid hpos
  have H := Lib.hid hN
  have HL := Lib.hid hl
  have hXlt := Lib.hid hl.1
  clear hN hl hpos hZ
  have hnil : Hid (A = none → m = 0) := by
    intro e
    rcases Nat.eq_zero_or_pos m with h0 | h0
    · exact h0
    · obtain ⟨ad, e', _⟩ := H.out.cell h0
      rw [e] at e'; cases e'
  have B0 : Hid (∀ o o', Below w.heap.size w ((w.alloc o).alloc o')) := fun o o' => ((Below.refl _ w).alloc (Nat.le_refl _) _).alloc (by simp) _
  have hcells : Hid (∀ o o' ad, A = some ad → ∀ j, j < m → ((w.alloc o).alloc o').cell? (ad.add j) = some (.int .u32 (dig B16 X (0 + j) : Nat))) := by
    intro o o' ad e j hj
    obtain ⟨ad', e', hc⟩ := (H.out.below (B0.out o o')).cell hj
    rw [e] at e'
    cases e'
    rw [hc, Nat.zero_add]
  have hown0 : Hid (∀ o, OwnD .u32 B16 80 ((w.alloc o).alloc (.cells #[] 80)) (w.heap.size + 1) (.slice (some ⟨w.heap.size + 1, 0, none⟩) 0 0) X 0) := fun o => by
    have := OwnD.empty (k := .u32) (B := B16) (t := 80) (w.alloc o) (w.heap.size + 1) (by simp) X
    simpa using this
  have hneg0 : Hid (∀ t o', ((w.alloc (.cells #[.bool neg, .slice A m c] t)).alloc o').cell? ⟨w.heap.size, 0, none⟩ = some (.bool neg)) := fun t o' => by
    have hb : ((w.alloc (.cells #[.bool neg, .slice A m c] t)).alloc o').heap[w.heap.size]? = some (.cells #[.bool neg, .slice A m c] t (0, 0)) := (((Below.refl (w.heap.size + 1) _).alloc (by simp) _).block _ (by omega)).trans (alloc_at rfl)
    simp [World.cell?, hb]
  clear H
  go_enter Tryz.func44, Tryz.ntmps44
  go_wp2_with (at_builtin; refine wpList_append_OwnDz _ rfl (.tmp 8) (.tmp 10) 34 80 rfl .u32 B16 4 Tryz.underlying34 info16 (w.heap.size + 1) (.slice (some ⟨w.heap.size + 1, 0, none⟩) 0 0) X 0 m rfl (hown0.out _) A c rfl hnil.out (hcells.out _ _) (by omega) (by omega) (by simp) ?_; intro v' W ho hgr; rw [Nat.zero_add] at ho; have ho' := Lib.hid ho; have hgr' := Lib.hid hgr; clear ho hgr)
  have hBW : Hid (Below (w.heap.size + 1) ((w.alloc (.cells #[.bool neg, .slice A m c] 36)).alloc (.cells #[] 80)) W) := (Below.refl _ _).grown hgr'.out (by simp) (by simp [Value.ownBlock])
  have hneg : Hid (W.cell? ⟨w.heap.size, 0, none⟩ = some (.bool neg)) := (hBW.out.cell (Nat.lt_succ_self _)).trans (hneg0.out _ _)
  have hend : Hid (∀ wr, Below (w.heap.size + 1) W wr → Below w.heap.size w wr) := fun wr hb => (B0.out _ _).trans ((hBW.out.trans hb).mono (Nat.le_succ _))
  have hW : w.heap.size + 1 < W.heap.size := by have := hBW.out.size; simp at this; omega
  have hst : ∃ a3 c3, v' = .slice a3 m c3 ∧ (0 < m → ∃ g, a3 = some ⟨g, 0, none⟩ ∧ w.heap.size + 1 ≤ g ∧ m ≤ c3 ∧ c3 ≤ 9223372036854775807 ∧ Row .u32 B16 80 W g m X) := by
    rcases ho'.out.row B16_pos with ⟨e1, e2⟩ | ⟨g, c2, e1, hg, hac, hc2, hrow⟩
    · exact ⟨none, 0, by rw [e1, e2], fun h => by omega⟩
    · rw [Nat.mod_eq_of_lt hXlt.out] at hrow
      exact ⟨_, c2, e1, fun _ => ⟨g, rfl, hg, hac, hc2, hrow⟩⟩
  obtain ⟨a3, c3, rfl, hst⟩ := hst
  have hst' := Lib.hid hst
  clear hst ho' hgr' hcells hown0 hneg0 B0 hBW hnil
  have hm4 : m ≤ 40000 := by omega
  go_wp2_with fail
  go_loopw [3, 4] (fun v3 v4 wr => ∃ (a : Option Addr) (n cc M j : Nat) (ds : List UInt8), v3 = .slice a n cc ∧ v4 = .string ⟨ds.toArray⟩ ∧ n ≤ m ∧ Hid (0 < n → ∃ g, a = some ⟨g, 0, none⟩ ∧ w.heap.size + 1 ≤ g ∧ n ≤ cc ∧ cc ≤ 9223372036854775807 ∧ Row .u32 B16 80 wr g n M) ∧ Hid (IsLen B16 M n) ∧ Hid (M = X / 10 ^ j) ∧ Hid (ds = decs j X) ∧ Hid (j = 0 ∨ 0 < X / 10 ^ (j - 1)) ∧ ds.length ≤ 16 * m + 1 ∧ Hid (Below (w.heap.size + 1) W wr)) (fun v _ wr => numOf16 wr v)
  case atStart => exact ⟨a3, m, c3, X, 0, [], rfl, rfl, Nat.le_refl _, hst', HL, by show X = X / 10 ^ 0; simp, rfl, .inl rfl, Nat.zero_le _, Below.refl _ _⟩
  case round =>
    obtain ⟨a, n, cc, M, j, ds, rfl, rfl, hn, hrow0, lM, hM, hds, hj0, hdl, hbel⟩ := hrel
    clear hst' HL
    rcases Nat.eq_zero_or_pos n with h0 | h0
    · subst h0
      obtain rfl : M = 0 := by have := lM.out.1; simpa using this
      have hng : wr.cell? ⟨w.heap.size, 0, none⟩ = some (.bool neg) := (hbel.out.cell (Nat.lt_succ_self _)).trans hneg.out
      rcases Nat.eq_zero_or_pos X with hX0 | hX0
      · have hj : j = 0 := by
          rcases hj0.out with h | h
          · exact h
          · rw [hX0, Nat.zero_div] at h; omega
        have hd0 : ds = [] := by rw [hds.out, hj]; rfl
        have hnf : neg = false := by
          cases neg with
          | false => rfl
          | true => have := hpos'.out rfl; omega
        have hit2 : Hid (Lib.itoa Z = [48]) := by
          show _ = _
          rw [hit.out, hnf, hX0]
          exact Lib.decDigits_one (by decide)
        subst hd0
        subst hnf
        clear hX0 hj hit hj0 hds hM hrow0 lM hpos' hXlt
        go_wp2_with fail
        go_ret
        exact ⟨by rw [hit2.out]; rfl, hend.out _ hbel.out⟩
      · obtain ⟨j1, hj1⟩ : ∃ j1, j = j1 + 1 := by
          rcases Nat.eq_zero_or_pos j with h | h
          · have := hM.out
            rw [h, Nat.pow_zero, Nat.div_one] at this
            omega
          · exact ⟨j - 1, by omega⟩
        have hdd : ds = Lib.decDigits X := by
          rw [hds.out, hj1]
          refine decs_all ?_ ?_
          · rw [← hj1]; exact hM.out.symm
          · rcases hj0.out with h | h
            · omega
            · rw [hj1] at h; exact h
        have hit2 : Hid (Lib.itoa Z = if neg then 45 :: ds else ds) := by rw [hdd]; exact hit
        obtain ⟨dc, dt, hdc⟩ : ∃ c t, ds = c :: t := by
          rcases hq : ds with _ | ⟨c, t⟩
          · exact absurd (hdd.symm.trans hq) (decDigits_ne X)
          · exact ⟨c, t, rfl⟩
        subst hdc
        rw [List.length_cons] at hdl
        clear hX0 hj1 hit hj0 hds hM hrow0 lM hpos' hXlt hdd
        cases neg with
        | true =>
          go_wp2_with fail
          go_ret
          exact ⟨by rw [hit2.out]; exact congrArg Ending.returned (str_app [45] (dc :: dt)), hend.out _ hbel.out⟩
        | false =>
          go_wp2_with fail
          go_ret
          exact ⟨by rw [hit2.out]; rfl, hend.out _ hbel.out⟩
    · obtain ⟨g, rfl, hg, hnc, hcc, hrow⟩ := hrow0.out h0
      have hM0 : Hid (0 < M) := by
        rcases Nat.eq_zero_or_pos M with hx | hx
        · subst hx
          have := lM.out.uniq (IsLen.zero _)
          omega
        · exact hx
      have hjl : j ≤ 16 * m := by
        have h1 : 10 ^ j ≤ X := by
          rcases Nat.lt_or_ge X (10 ^ j) with h | h
          · have := hM.out
            rw [Nat.div_eq_of_lt h] at this
            have := hM0.out
            omega
          · exact h
        have h2 : 2 ^ j ≤ 10 ^ j := Nat.pow_le_pow_left (by decide) _
        have h3 := hXlt.out
        rw [B16_pow] at h3
        have := (Nat.pow_lt_pow_iff_right (a := 2) (by omega)).1 (Nat.lt_of_le_of_lt h2 (Nat.lt_of_le_of_lt h1 h3))
        omega
      have hdj : ds.length = j := by rw [hds.out]; exact decs_length _ _
      have hrow' := Lib.hid hrow
      have hMlt := Lib.hid hrow.2
      have hnum := Lib.hid (hrow.numc cc hnc hcc)
      have hdj' : ds.length ≤ 16 * m := by omega
      have hdjH := Lib.hid hdj
      clear hrow hrow0 hdl hdj hjl
      go_wp2_with fail
      obtain ⟨wo, rfl⟩ : ∃ wo : World, wo = wr := ⟨_, rfl⟩
      go_loopw [5, 6] (fun v5 v6 wi => ∃ k l : Nat, v6 = .int .i64 ((k : Int) - 1) ∧ k ≤ n ∧ v5 = .int .u32 l ∧ l < 10 ∧ Hid (l = M / B16 ^ k % 10) ∧ Hid (Row .u32 B16 80 wi g n (mix B16 M (M / 10) k)) ∧ Hid (Below (w.heap.size + 1) W wi)) (fun _ v _ => (intOf v + 1).toNat)
      case atStart => exact ⟨n, 0, rfl, Nat.le_refl _, rfl, by omega, by show 0 = _; rw [Nat.div_eq_of_lt hMlt.out], by rw [mix_all B16_pos hMlt.out (Nat.lt_of_le_of_lt (Nat.div_le_self _ _) hMlt.out)]; exact hrow', hbel⟩
      case round =>
        clear hrow' hbel
        obtain ⟨k, l, rfl, hk, rfl, hl2, hl, hrow, hbel⟩ := hrel
        cases k with
        | succ i =>
          have hd16 := dig16_lt M i
          have hcell := hrow.out.cell (show i < n by omega)
          rw [dig_mix B16_pos, if_pos (by omega)] at hcell
          have hfz := hrow.out.frozen i
          have hs1 := ten_dig M i
          rw [← hl.out] at hs1
          obtain ⟨hs1, hs2⟩ := hs1
          obtain ⟨d, hd⟩ : ∃ d, d = dig B16 M i := ⟨_, rfl⟩
          rw [← hd] at hcell hd16 hs1 hs2
          obtain ⟨x, hx⟩ : ∃ x, x = l * 65536 + d := ⟨_, rfl⟩
          rw [← hx] at hs1 hs2
          have hw1 : IntKind.u32.wrap ((l : Int) * 65536) = (l : Int) * 65536 := by rw [IntKind.wrap_u32]; omega
          have hw2 : IntKind.u32.wrap ((l : Int) * 65536 + (d : Int)) = (x : Int) := by rw [IntKind.wrap_u32]; omega
          have hw3 : (x : Int) / 10 = ((dig B16 (M / 10) i : Nat) : Int) := by rw [← hs1]; omega
          obtain ⟨l2, hl3⟩ : ∃ l2, l2 = x % 10 := ⟨_, rfl⟩
          have hw4 : (x : Int) % 10 = (l2 : Int) := by omega
          have hl4 : Hid (l2 = M / B16 ^ i % 10) := by show l2 = _; rw [hl3, hs2]
          have hl5 : l2 < 10 := by omega
          have hw5 := wrap_u32 (dig B16 (M / 10) i) (Nat.lt_trans (dig16_lt (M / 10) i) (by omega))
          clear hx hd hl3 hs1 hs2 hl
          go_wp2_with fail
          go_roundw
          case rel => exact ⟨i, l2, by go_num, by omega, by rw [hw4], hl5, hl4, hrow.out.set i _ (mix B16 M (M / 10) i) (mix_lt B16_pos (by omega) (Nat.lt_of_le_of_lt (Nat.div_le_self _ _) hMlt.out)) (fun t => mix_down B16_pos _ _ i t), hbel.out.setCell hg _⟩
          case measure => simp [intOf]; try omega
        | zero =>
          have hrow2 : Hid (Row .u32 B16 80 wr g n (M / 10)) := by
            have := hrow.out
            rw [mix_zero] at this
            exact this
          have hl0 : Hid (l = M % 10) := by
            have := hl.out
            rw [Nat.pow_zero, Nat.div_one] at this
            exact this
          clear hrow hl
          have hw6 : IntKind.u32.wrap (48 + (l : Int)) = ((48 + l : Nat) : Int) := by rw [IntKind.wrap_u32]; omega
          obtain ⟨b, hb⟩ : ∃ b : UInt8, b = UInt8.ofNat (48 + l) := ⟨_, rfl⟩
          have hbn : (b.toNat : Int) = 48 + (l : Int) := by
            rw [hb, UInt8.toNat_ofNat']; omega
          have hcv : (convert 113 9 (.slice (some ⟨wr.heap.size, 0, none⟩) 1 1)).run Tryz.prog (wr.alloc (.cells #[.int .u8 (48 + (l : Int))] 5)) = .ok (.string ⟨[b].toArray⟩) (wr.alloc (.cells #[.int .u8 (48 + (l : Int))] 5)) :=
            run_convert_bytes_back (P := Tryz.prog) _ 113 9 5 ⟨wr.heap.size, 0, none⟩ 1 [b] Tryz.underlying113 Tryz.underlying5 Tryz.underlying9 (fun j hj => by
              have : j = 0 := by simp at hj; omega
              subst this
              rw [add_zero', World.cell?_alloc_at _ _ _ _ rfl, List.getElem_cons_zero, hbn]
              rfl)
          have hbel2 : Hid (∀ o, Below (w.heap.size + 1) W (wr.alloc o)) := fun o => hbel.out.alloc (by have := hbel.out.size; omega) o
          have hrow3 : Hid (∀ o, Row .u32 B16 80 (wr.alloc o) g n (M / 10)) := fun o => hrow2.out.of_block (((Below.refl wr.heap.size wr).alloc (Nat.le_refl _) o).block _ hrow2.out.lt)
          have hb' := Lib.hid hb
          have hcv' := hcv
          clear hb hbn hcv hrow2 hbel
          go_wp2_with fail
          refine (trimA_calls _ n (M / 10) _ ((hrow3.out _).numc cc hnc hcc)).mono ?_
          rintro e w' ⟨A2, n2, cc2, rfl, rfl, hn2, hN2, hl2, hv2⟩
          injection hv2 with e1 _ e3
          subst e1
          subst e3
          have hN2' := Lib.hid hN2
          have hL2 := Lib.hid hl2
          clear hN2 hl2 hcv'
          go_wp2_with fail
          go_roundw
          case rel =>
            refine ⟨some ⟨g, 0, none⟩, n2, cc, M / 10, j + 1, b :: ds, rfl, str_app [b] ds, by omega, fun h => ⟨g, rfl, hg, by omega, hcc, (hrow3.out _).le hn2 hL2.out.1⟩, hL2, ?_, ?_, .inr ?_, by simp; omega, hbel2.out _⟩
            · show _ = _
              rw [hM.out, Nat.div_div_eq_div_mul, Nat.pow_succ]
            · show _ = _
              rw [Nat.add_comm j 1, decs_add 1 j X, ← hM.out, decs_one, ← hl0.out, ← hb'.out, hds.out]
              rfl
            · rw [Nat.add_sub_cancel, ← hM.out]; exact hM0.out
          case measure =>
            rw [numOf16_eq hnum.out, numOf16_eq hN2'.out]
            exact Nat.div_lt_self hM0.out (by decide)
end Go.Proofs.YtmobnjlbbhhedaaGreatDoor
