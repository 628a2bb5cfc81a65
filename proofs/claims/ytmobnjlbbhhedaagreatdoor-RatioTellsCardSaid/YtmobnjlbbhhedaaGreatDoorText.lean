/- The walks of whole.Plain and of split.Text at -120. -/
import Derived.Test.YtmobnjlbbhhedaaGreatDoorFmtU
import Derived.Test.YtmobnjlbbhhedaaGreatDoorDivE
set_option linter.unusedVariables false
set_option linter.unusedSimpArgs false
namespace Go.Proofs.YtmobnjlbbhhedaaGreatDoor
open Go.RowKit

theorem results_cell {fn : Func} {p : Tmp} {ty : TypeId} (h : fn.results = #[.cell p ty]) (tmps : Array Value) (P : Program) (w : World) :
    (results fn tmps).run P w = ((asAddr (tmps.getD p undef)).run P w).andThen fun a w₁ => (loadVar ty a).run P w₁ := by
  simp only [results, h]
  simp [Sem.run_bind, Result.andThen]
set_option maxRecDepth 100000 in
theorem wplain_calls (s : Bool) (VA : Option Addr) (c : Nat) (X n : Nat) (w : World) (h : Num .u64 B64 w (.slice VA n c) X n) :
    Calls Tryz.prog 31 #[.agg #[.bool s, .slice VA n c]] w fun e w' => ∃ m, e = .returned (.agg #[.bool (s && decide (0 < m)), .slice VA m m]) ∧ Below w.heap.size w w' ∧ m ≤ n ∧ Num .u64 B64 w (.slice VA m m) X m ∧ IsLen B64 X m := by
  obtain ⟨VA', c', e, hnc, hc⟩ := h.form
  cases e
  have H := Lib.hid h
  clear h
  go_enter Tryz.func31, Tryz.ntmps31
  go_wp2_with fail
  have hB : Hid (∀ o o', Below w.heap.size w ((w.alloc o).alloc o')) := fun o o' => ((Below.refl _ w).alloc (Nat.le_refl _) _).alloc (by simp) _
  refine (natPlain_walk VA n c X _ (H.out.below (hB.out _ _))).mono ?_
  rintro e w' ⟨m, rfl, rfl, hm, hl⟩
  have HA : Hid (Num .u64 B64 w (.slice VA m m) X m) := H.out.take hm hl.1 m (Nat.le_refl _) (by omega)
  have hl' := Lib.hid hl
  cases s
  all_goals go_wp2_with fail
  · refine bodyPost_ret (v := .agg #[.bool false, .slice VA m m]) (by rw [results_cell rfl]; go_simp) rfl ?_
    exact ⟨m, rfl, hB.out _ _, hm, HA.out, hl'.out⟩
  · refine bodyPost_ret (v := .agg #[.bool (decide (0 < m)), .slice VA m m]) (by rw [results_cell rfl]; go_simp) rfl ?_
    exact ⟨m, by simp, hB.out _ _, hm, HA.out, hl'.out⟩

theorem infoStr : (Tryz.prog.info? 9).map (fun i => (i.zero, i.size, i.bytes)) = some (some (.string ⟨#[]⟩), 1, 16) := by kernel_rfl
theorem dec120 : Lib.decDigits 120 = [49, 50, 48] := by
  rw [Lib.decDigits, dif_neg (by decide), Lib.decDigits, dif_neg (by decide), Lib.decDigits, dif_pos (by decide)]
  rfl
set_option maxRecDepth 100000 in
theorem reverse1 (a : Option Addr) (c : Nat) (w : World) : Calls Tryz.prog 74 #[.slice a 1 c] w fun e w' => e = .returned (.tuple #[]) ∧ w = w' := by
  go_enter Tryz.func74, Tryz.ntmps74
  go_wp2_with fail
  go_loopw [2, 3] (fun v2 v3 wr => v2 = .int .i64 0 ∧ v3 = .int .i64 0 ∧ wr = w) (fun _ _ _ => 0)
  case atStart => exact ⟨rfl, rfl, rfl⟩
  case round =>
    obtain ⟨rfl, rfl, rfl⟩ := hrel
    go_wp2_with fail
    go_end0
    exact ⟨rfl, rfl⟩
set_option maxRecDepth 100000 in
theorem join1 (g c : Nat) (s : ByteArray) (w : World) (h : w.cell? ⟨g, 0, none⟩ = some (.string s)) (u : Value) : Calls Tryz.prog 75 #[.slice (some ⟨g, 0, none⟩) 1 c, u] w fun e w' => e = .returned (.string s) ∧ w = w' := by
  go_enter Tryz.func75, Tryz.ntmps75
  go_wp2_with fail
  go_ret
  exact ⟨rfl, rfl⟩
theorem head_app (v : Value) (xs : Array Value) : (#[v] ++ xs)[0]? = some v := by
  rw [Array.getElem?_append_left (by simp)]
  rfl
theorem OwnRow.two (w : World) (x y : Value) (t : TypeId) : OwnRow (w.alloc (.cells #[x, y] t)) w.heap.size t 2 (fun i => if i = 0 then x else y) :=
  ⟨#[x, y], by show (w.heap.push _)[w.heap.size]? = _; simp, by simp, fun i hi => by
    rcases (by omega : i = 0 ∨ i = 1) with rfl | rfl <;> rfl⟩

set_option maxRecDepth 100000 in
theorem text_120 (VA : Option Addr) (c : Nat) (n : Nat) (w : World) (h : Num .u64 B64 w (.slice VA n c) 120 n) (hn : n ≤ 900) (htab : Lib.TabIs Tryz.prog w "internal/strconv.uint64pow10" .u64 Lib.pow10Tab) :
    Calls Tryz.prog 43 #[.agg #[.bool true, .slice VA n c]] w fun e w' => e = .returned (.tuple #[.string ⟨#[45, 49, 50, 48]⟩, .nilIface]) ∧ Below w.heap.size w w' := by
  have H := Lib.hid h
  clear h
  go_enter Tryz.func43, Tryz.ntmps43
  go_wp2_with fail
  have hB : Hid (∀ o, Below w.heap.size w (w.alloc o)) := fun o => (Below.refl _ w).alloc (Nat.le_refl _) _
  refine (wplain_calls true VA c 120 n _ (H.out.below (hB.out _))).mono ?_
  rintro e w1 ⟨m, rfl, hb1, hm, HA, hl⟩
  obtain rfl : m = 1 := by
    refine hl.uniq ⟨by decide, fun m hm => ?_⟩
    rcases m with _ | m
    · simp at hm
    · omega
  obtain ⟨_, _, ee, hnc, hcc⟩ := H.out.form
  cases ee
  have hX : Hid (Num .u64 B64 w (.slice VA 1 1) 120 1) := H.out.take hm (by decide) 1 (Nat.le_refl _) (by omega)
  have hrow : OwnRow w1 w.heap.size 24 2 (fun i => if i = 0 then .bool true else .slice VA n c) := (OwnRow.two w _ _ _).of_block (hb1.block _ (by simp))
  have hc0 := hrow.cell (show 0 < 2 by omega)
  have hc1 := hrow.cell (show 1 < 2 by omega)
  have hf0 := hrow.frozen 0
  have hf1 := hrow.frozen 1
  simp only [if_true, Nat.one_ne_zero, if_false] at hc0 hc1
  have hrow2 := (hrow.set 0 (.bool true)).set 1 (.slice VA 1 1)
  have hrow' := Lib.hid hrow2
  have B1 : Hid (Below w.heap.size w w1) := (hB.out _).trans (hb1.mono (by simp))
  have B2 : Hid (Below w.heap.size w ((w1.setCell ⟨w.heap.size, 0, none⟩ (.bool true)).setCell ⟨w.heap.size, 1, none⟩ (.slice VA 1 1))) := (B1.out.setCell (Nat.le_refl _) _).setCell (Nat.le_refl _) _
  clear HA hl hb1 hrow hrow2
  go_wp2_with fail
  refine (small_calls _ 120 1 _ (hX.out.below B2.out) (by omega)).mono ?_
  rintro e w' ⟨rfl, rfl⟩
  generalize ((w1.setCell ⟨w.heap.size, 0, none⟩ (.bool true)).setCell ⟨w.heap.size, 1, none⟩ (.slice VA 1 1)) = W at *
  have hn0 := hrow'.out.cell (show 0 < 2 by omega)
  have hn1 := hrow'.out.cell (show 1 < 2 by omega)
  clear hc0 hc1 hf0 hf1
  simp only [if_true, Nat.one_ne_zero, if_false, Nat.zero_ne_one] at hn0 hn1
  have hT := Lib.hid (Lib.tabBelow_of_tabIs htab)
  have hu120 : Hid (IsLen B64 (120 / 1000000000000000000) 0) := IsLen.zero _
  clear htab
  go_wp2_with fail
  go_loopw [4, 5] (fun v4 v5 wr => (v4 = .slice none 0 0 ∧ v5 = .slice VA 1 1 ∧ wr = W) ∨ (∃ C g cg, v5 = .slice C 0 0 ∧ v4 = .slice (some ⟨g, 0, none⟩) 1 cg ∧ w.heap.size < g ∧ Hid (wr.cell? ⟨g, 0, none⟩ = some (.string ⟨#[49, 50, 48]⟩)) ∧ Hid (Below w.heap.size w wr) ∧ Hid (wr.cell? ⟨w.heap.size, 0, none⟩ = some (.bool true)))) (fun _ v _ => match v with | .slice _ n _ => n | _ => 0)
  case atStart => exact .inl ⟨rfl, rfl, rfl⟩
  case round =>
    rcases hrel with ⟨rfl, rfl, rfl⟩ | ⟨C, g, cg, rfl, rfl, hg, hcell, hbel, hneg⟩
    · go_wp2_with fail
      refine (by_calls _ 120 1 1000000000000000000 _ (hX.out.below B2.out) (by omega) (by omega) (by omega)).mono ?_
      rintro e w2 ⟨C, r, rfl, hC, hlc, hb⟩
      obtain rfl : r = 0 := hlc.uniq hu120.out
      have hb' := Lib.hid hb
      clear hC hlc hb
      go_wp2_with fail
      have BW2 : Hid (Below w.heap.size w w2) := B2.out.trans (hb'.out.mono B2.out.size)
      have hn2 := cell_below hb'.out hn0
      refine (fmtu2_calls 120 (by omega) w2 (hT.out _ BW2.out)).mono ?_
      rw [dec120]
      rintro e w3 ⟨rfl, hb3⟩
      have BW3 : Hid (Below w.heap.size w w3) := BW2.out.trans (hb3.mono BW2.out.size)
      have hn3 := cell_below hb3 hn2
      have hsz3 : w.heap.size < w3.heap.size := by
        have h1 := World.block_lt_of_cell? w3 _ hn3
        exact h1
      clear hn2 hb' hb3 BW2 hn0 hn1
      go_wp2_with fail
      go_roundw
      case rel =>
        refine .inr ⟨C, w3.heap.size + 1, _, rfl, rfl, by omega, ?_, ?_, ?_⟩
        · show World.cell? (World.alloc (World.alloc _ _) _) _ = _
          rw [World.cell?_alloc_at _ _ _ _ (by simp)]
          exact head_app _ _
        · exact below_drewN (n := 1) ((BW3.out.alloc (Nat.le_of_lt hsz3) _).alloc (by simp; omega) _)
        · exact cell_below (below_drewN (n := 1) (((Below.refl _ w3).alloc (Nat.le_refl _) _).alloc (by simp) _)) hn3
      case measure => simp
    · have hcc := hcell.out
      have hnn := hneg.out
      go_wp2_with fail
      refine (reverse1 _ cg wr).mono ?_
      rintro e w3 ⟨rfl, rfl⟩
      go_wp2_with fail
      refine (join1 g cg _ _ hcc _).mono ?_
      rintro e w3 ⟨rfl, rfl⟩
      go_wp2_with fail
      go_ret2
      exact ⟨rfl, hbel.out⟩
end Go.Proofs.YtmobnjlbbhhedaaGreatDoor
