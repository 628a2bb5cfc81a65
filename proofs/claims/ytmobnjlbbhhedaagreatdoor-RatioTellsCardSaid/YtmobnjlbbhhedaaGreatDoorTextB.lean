/- The walk of split.Text. -/
import Derived.Test.YtmobnjlbbhhedaaGreatDoorStr
import Derived.Test.YtmobnjlbbhhedaaGreatDoorShelfB
set_option linter.unusedVariables false
set_option linter.unusedSimpArgs false
namespace Go.Proofs.YtmobnjlbbhhedaaGreatDoor
open Go.RowKit

theorem below_next {w w1 w2 : World} (h : Below w.heap.size w w1) (k : Below w1.heap.size w1 w2) : Below w.heap.size w w2 := h.trans (k.mono h.size)
set_option maxHeartbeats 8000000 in
set_option maxRecDepth 100000 in
theorem text_calls (s : Bool) (VA : Option Addr) (c X n : Nat) (w : World) (h : Num .u64 B64 w (.slice VA n c) X n) (hn : n ≤ 600) (htab : Lib.TabIs Tryz.prog w "internal/strconv.uint64pow10" .u64 Lib.pow10Tab) :
    Calls Tryz.prog 43 #[.agg #[.bool s, .slice VA n c]] w fun e w' => e = .returned (.tuple #[str (Lib.itoa (sgn s X)), .nilIface]) ∧ Below w.heap.size w w' := by
  have H := Lib.hid h
  clear h
  go_enter Tryz.func43, Tryz.ntmps43
  go_wp2_with fail
  have hB : Hid (∀ o, Below w.heap.size w (w.alloc o)) := fun o => (Below.refl _ w).alloc (Nat.le_refl _) _
  refine (wplain_calls s VA c X n _ (H.out.below (hB.out _))).mono ?_
  rintro e w1 ⟨m, rfl, hb1, hm, HA, hl⟩
  obtain ⟨_, _, ee, hnc, hcc⟩ := H.out.form
  cases ee
  have hX : Hid (Num .u64 B64 w (.slice VA m m) X m) := H.out.take hm hl.1 m (Nat.le_refl _) (by omega)
  have hlX := Lib.hid hl
  obtain ⟨sb, hsb⟩ : ∃ sb, sb = (s && decide (0 < m)) := ⟨_, rfl⟩
  rw [← hsb]
  have hpos : 0 < m ↔ 0 < X := ⟨fun h0 => by
    rcases Nat.eq_zero_or_pos X with hx | hx
    · subst hx
      have := hl.uniq (IsLen.zero _)
      omega
    · exact hx, fun h0 => hl.pos h0⟩
  have hit : Hid (Lib.itoa (sgn s X) = if sb then 45 :: Lib.decDigits X else Lib.decDigits X) := by
    show _ = _
    rw [itoa_sgn, hsb]
    congr 1
    by_cases h0 : 0 < X
    · simp [h0, hpos.2 h0]
    · have : ¬ 0 < m := fun h1 => h0 (hpos.1 h1)
      simp [h0, this]
  have hsb0 : Hid (X = 0 → sb = false) := by
    intro h0
    have : ¬ 0 < m := fun h1 => by have := hpos.1 h1; omega
    rw [hsb]; simp [this]
  have hrow : OwnRow w1 w.heap.size 24 2 (fun i => if i = 0 then .bool s else .slice VA n c) := (OwnRow.two w _ _ _).of_block (hb1.block _ (by simp))
  have hc0 := hrow.cell (show 0 < 2 by omega)
  have hc1 := hrow.cell (show 1 < 2 by omega)
  have hf0 := hrow.frozen 0
  have hf1 := hrow.frozen 1
  simp only [if_true, Nat.one_ne_zero, if_false] at hc0 hc1
  have hrow2 := (hrow.set 0 (.bool sb)).set 1 (.slice VA m m)
  have hrow' := Lib.hid hrow2
  have B1 : Hid (Below w.heap.size w w1) := (hB.out _).trans (hb1.mono (by simp))
  have B2 : Hid (Below w.heap.size w ((w1.setCell ⟨w.heap.size, 0, none⟩ (.bool sb)).setCell ⟨w.heap.size, 1, none⟩ (.slice VA m m))) := (B1.out.setCell (Nat.le_refl _) _).setCell (Nat.le_refl _) _
  clear HA hl hb1 hrow hrow2 hsb hpos
  go_wp2_with fail
  refine (small_calls _ X m _ (hX.out.below B2.out) (by omega)).mono ?_
  rintro e w' ⟨rfl, rfl⟩
  generalize ((w1.setCell ⟨w.heap.size, 0, none⟩ (.bool sb)).setCell ⟨w.heap.size, 1, none⟩ (.slice VA m m)) = W at *
  have hn0 := hrow'.out.cell (show 0 < 2 by omega)
  have hn1 := hrow'.out.cell (show 1 < 2 by omega)
  clear hc0 hc1 hf0 hf1
  simp only [if_true, Nat.one_ne_zero, if_false, Nat.zero_ne_one] at hn0 hn1
  have hT := Lib.hid (Lib.tabBelow_of_tabIs htab)
  have hXW := Lib.hid (hX.out.below B2.out)
  clear htab hX H hB B1 hrow'
  have hWsz : w.heap.size < W.heap.size := World.block_lt_of_cell? W _ hn0
  have hn0' := Lib.hid hn0
  go_wp2_with fail
  have hXlt : Hid (X < B64 ^ n) := Nat.lt_of_lt_of_le hlX.out.1 (Nat.pow_le_pow_right B64_pos hm)
  have hTW : Hid (∀ wr, Below (w.heap.size + 1) W wr → Lib.TabIs Tryz.prog wr "internal/strconv.uint64pow10" .u64 Lib.pow10Tab) := fun wr hb => hT.out wr (B2.out.trans (hb.mono (Nat.le_succ _)))
  have hend : Hid (∀ wr, Below (w.heap.size + 1) W wr → Below w.heap.size w wr) := fun wr hb => B2.out.trans (hb.mono (Nat.le_succ _))
  clear hn0' hT B2
  go_loopw [4, 5] (fun v4 v5 wr => ∃ (L : List (List UInt8)) (A : Option Addr) (M r : Nat) (a4 : Option Addr) (c4 : Nat), v4 = .slice a4 L.length c4 ∧ v5 = .slice A r r ∧ r ≤ n ∧ Hid (Num .u64 B64 wr (.slice A r r) M r) ∧ Hid (IsLen B64 M r) ∧ Hid (OwnS wr (w.heap.size + 1) (.slice a4 L.length c4) L) ∧ Hid (Pieces X L M) ∧ Hid (L.length ≤ 64 * n + 1) ∧ Hid (Below (w.heap.size + 1) W wr)) (fun _ v wr => numOf wr v)
  case atStart => exact ⟨[], VA, X, m, none, 0, rfl, rfl, hm, hXW, hlX, OwnS.nil _ _, Pieces.start X, Nat.zero_le _, Below.refl _ _⟩
  case round =>
    obtain ⟨L, A, M, r, a4, c4, rfl, rfl, hr, HM, lM, hown, hP, hLn, hbel⟩ := hrel
    have hbz := hbel.out.size
    have hneg : wr.cell? ⟨w.heap.size, 0, none⟩ = some (.bool sb) := (hbel.out.cell (Nat.lt_succ_self _)).trans hn0
    clear hn0 hn1 hXW
    rcases Nat.eq_zero_or_pos r with h0 | h0
    · subst h0
      obtain rfl : M = 0 := by have := lM.out.1; simpa using this
      obtain ⟨p1, p2⟩ := hP.out.2 rfl
      have hfl : Hid (L.reverse.flatten = if X = 0 then [] else Lib.decDigits X) := by
        show _ = _
        by_cases hX0 : X = 0
        · rw [if_pos hX0, p1 hX0]; rfl
        · rw [if_neg hX0]; exact p2 (by omega)
      rcases Nat.eq_zero_or_pos X with hX0 | hX0
      · obtain rfl := p1 hX0
        have hsb := hsb0.out hX0
        have hend' : Hid (Lib.itoa (sgn s X) = [48]) := by
          show _ = _
          rw [hit.out, hsb, hX0]
          exact Lib.decDigits_one (by decide)
        subst hsb
        clear hX0 hfl hsb0 hit hLn p1 p2 lM HM hown hP
        rw [List.length_nil]
        go_wp2_with fail
        refine (Tryz.slices_Reverse_string_empty a4 c4 wr).mono ?_
        rintro e w3 ⟨rfl, rfl⟩
        go_wp2_with fail
        refine (Tryz.strings_Join_none a4 c4 ⟨#[]⟩ w3).mono ?_
        rintro e w4 ⟨rfl, rfl⟩
        go_wp2_with fail
        go_ret2
        exact ⟨by rw [hend'.out]; rfl, hend.out _ hbel.out⟩
      · have hL : L ≠ [] := by
          rintro rfl
          have := hfl.out
          rw [if_neg (by omega)] at this
          exact decDigits_ne X this.symm
        obtain ⟨h1, h2⟩ | ⟨g, c', h1, hg, hLc, hrow⟩ := hown.out.row
        · exact absurd h2 hL
        injection h1 with h1 h2 h3
        subst h1
        subst h3
        have hfl' : Hid (L.reverse.flatten = Lib.decDigits X) := by
          have := hfl.out
          rwa [if_neg (by omega)] at this
        have hrc : Hid (∀ i, i < L.length → wr.cell? ⟨g, 0 + i, none⟩ = some (.string ⟨(L.getD i []).toArray⟩)) := fun i hi => by rw [Nat.zero_add]; exact hrow.cell hi
        have hrf : Hid (∀ j, j < L.length → wr.frozen? ⟨g, 0 + j, none⟩ = false) := fun j hj => hrow.frozen _
        have hrow' := Lib.hid hrow
        have hX0' := Lib.hid hX0
        obtain ⟨nL, hnL⟩ : ∃ nL, nL = L.length := ⟨_, rfl⟩
        rw [← hnL] at hrc hrf
        have hLc' : nL ≤ c4 := by omega
        have hnLb : nL ≤ 64 * n + 1 := by rw [hnL]; exact hLn.out
        have hnL' := Lib.hid hnL
        have hL' := Lib.hid hL
        rw [← hnL]
        clear hrow hnL hsb0 hLc hLn hfl p1 p2 lM HM hown hP hX0 hL h2
        go_wp2_with fail
        refine (Tryz.slices_Reverse_string_cells g 0 nL c4 (fun i => ⟨(L.getD i []).toArray⟩) wr (by omega) hrc.out hrf.out).mono ?_
        rintro e w3 ⟨rfl, q, rfl⟩
        have hst : Lib.strsOf (fun i => ⟨(L.getD i []).toArray⟩) nL = L := by rw [hnL'.out]; exact strs_getD L
        rw [hst]
        obtain ⟨hr2, honly⟩ := OwnRow.setCells (L.reverse.map encStr) 0 (wr.drewN q) _ (show OwnRow (wr.drewN q) g 9 L.length _ from hrow'.out)
        rw [List.map_reverse] at hr2 honly
        have B3 : Hid (Below (w.heap.size + 1) W ((wr.drewN q).setCells g 0 (L.map encStr).reverse)) := honly.below (below_drewN hbel.out q) hg
        have hsz : g < ((wr.drewN q).setCells g 0 (L.map encStr).reverse).heap.size := hr2.lt
        rw [List.map_reverse]
        generalize (wr.drewN q).setCells g 0 (L.map encStr).reverse = W3 at *
        have hjc : ∀ (j : Nat) x, (L.reverse.map fun l => (⟨l.toArray⟩ : ByteArray))[j]? = some x → W3.cell? ⟨g, 0 + j, none⟩ = some (.string x) := by
          intro j x hj
          have hjl : j < L.length := by
            apply Classical.byContradiction
            intro hge
            rw [List.getElem?_eq_none (by simp; omega)] at hj
            cases hj
          rw [Nat.zero_add, hr2.cell hjl, if_pos (by simp; omega), Nat.sub_zero, ← List.map_reverse, List.getD_eq_getElem?_getD, List.getElem?_map]
          rw [List.getElem?_map] at hj
          rcases hq : L.reverse[j]? with _ | y
          · rw [hq] at hj; cases hj
          · rw [hq] at hj
            simp at hj
            rw [← hj]
            rfl
        have hfj : Lib.join ((L.reverse.map fun l => (⟨l.toArray⟩ : ByteArray)).map (·.data.toList)) (⟨#[]⟩ : ByteArray).data.toList = Lib.decDigits X := by
          rw [List.map_map]
          have e : (L.reverse.map ((fun b : ByteArray => b.data.toList) ∘ fun l => (⟨l.toArray⟩ : ByteArray))) = L.reverse := by
            conv => rhs; rw [← List.map_id L.reverse]
            exact List.map_congr_left fun x _ => by simp
          rw [e]
          show Lib.join L.reverse [] = _
          rw [join_flat, hfl'.out]
        have hjn := Tryz.strings_Join g 0 c4 (L.reverse.map fun l => (⟨l.toArray⟩ : ByteArray)) ⟨#[]⟩ W3 hjc hsz (by simp; rw [← hnL'.out]; omega) (by simp; rw [← hnL'.out]; omega) (by rw [hfj]; have := digits_bound hXlt.out; omega)
        rw [hfj, List.length_map, List.length_reverse, ← hnL'.out] at hjn
        have hj := Lib.hid hjn
        obtain ⟨dc, dt, hdX⟩ : ∃ c t, Lib.decDigits X = c :: t := by
          rcases hd : Lib.decDigits X with _ | ⟨c, t⟩
          · exact absurd hd (decDigits_ne X)
          · exact ⟨c, t, rfl⟩
        have hdl : (Lib.decDigits X).length ≤ 64 * n + 1 := digits_bound hXlt.out
        rw [hdX] at hj hit hdl
        rw [List.length_cons] at hdl
        have hn3 : W3.cell? ⟨w.heap.size, 0, none⟩ = some (.bool sb) := (B3.out.cell (Nat.lt_succ_self _)).trans ((hbel.out.cell (Nat.lt_succ_self _)).symm.trans hneg)
        clear hst hr2 honly hjc hfj hjn hdX hrow' hrc hrf hfl' hneg hbel hbz
        go_wp2_with fail
        refine hj.out.mono ?_
        rintro e w4 ⟨rfl, hb⟩
        have B4 : Hid (Below (w.heap.size + 1) W w4) := B3.out.trans (hb.mono (by omega))
        have hn4 := cell_below hb hn3
        clear hb hn3 B3 hj
        cases sb with
        | true =>
          go_wp2_with fail
          go_ret2
          exact ⟨by rw [hit.out]; exact congrArg (fun v => Ending.returned (.tuple #[v, .nilIface])) (str_app [45] (dc :: dt)), hend.out _ B4.out⟩
        | false =>
          go_wp2_with fail
          go_ret2
          exact ⟨by rw [hit.out]; rfl, hend.out _ B4.out⟩
    · have hM0 : Hid (0 < M) := by
        rcases Nat.eq_zero_or_pos M with hx | hx
        · subst hx
          have := lM.out.uniq (IsLen.zero _)
          omega
        · exact hx
      obtain ⟨lo, hlo⟩ : ∃ lo, lo = M % 1000000000000000000 := ⟨_, rfl⟩
      obtain ⟨M2, hM2⟩ : ∃ M2, M2 = M / 1000000000000000000 := ⟨_, rfl⟩
      have hlo1 : lo < 1000000000000000000 := by rw [hlo]; exact Nat.mod_lt _ (by decide)
      have hlt : Hid (M2 < M) := by
        show M2 < M
        rw [hM2]; exact Nat.div_lt_self hM0.out (by decide)
      have hLn2 : L.length ≤ 64 * n := hP.out.len hM0.out hXlt.out
      obtain ⟨ds, hds⟩ : ∃ ds, ds = Lib.decDigits lo := ⟨_, rfl⟩
      have hpad := pad_decs 17 lo hlo1
      have hdl : ds.length ≤ 18 := by
        have := congrArg List.length hpad
        rw [← hds, decs_length] at this
        simp at this
        omega
      rw [← hds] at hpad
      have hpad' := Lib.hid hpad
      have bc := Lib.hid (fun wr h => byA_calls (.slice A r r) M r 1000000000000000000 wr h (by omega) (by omega) (by omega))
      have fc := Lib.hid (fun w h => fmtu2_calls lo (by omega) w h)
      rw [← hlo, ← hM2] at bc
      rw [← hds] at fc
      have hlo' := Lib.hid hlo
      have hM2' := Lib.hid hM2
      have hds' := Lib.hid hds
      obtain ⟨v4, hv4⟩ : ∃ v, v = Value.slice a4 L.length c4 := ⟨_, rfl⟩
      obtain ⟨_, _, _, hob⟩ := hown.out.form
      have hob' := Lib.hid hob
      have hol : Hid (∀ g, (Value.slice a4 L.length c4).ownBlock = some g → g < wr.heap.size) := hown.out.lt
      obtain ⟨nL, hnL⟩ : ∃ nL, nL = L.length := ⟨_, rfl⟩
      rw [← hnL] at hown hob' hol hLn2
      rw [← hnL]
      have hnL' := Lib.hid hnL
      clear hlo hM2 hds hpad hv4 hob hLn hneg hnL
      go_wp2_with fail
      refine (bc.out _ HM.out).mono ?_
      rintro e w2 ⟨r2, rfl, hC, hlc, hb⟩
      have B2 : Hid (Below (w.heap.size + 1) W w2) := hbel.out.trans (hb.mono (by omega))
      have hz2 : W.heap.size ≤ w2.heap.size := B2.out.size
      have HC := Lib.hid hC
      have LC := Lib.hid hlc
      have hown2 := Lib.hid (hown.out.below hb)
      have hr2 : r2 ≤ r := hlc.le (Nat.lt_trans hlt.out lM.out.1)
      clear hC hlc hb hown
      go_wp2_with fail
      refine (fc.out w2 (hTW.out _ B2.out)).mono ?_
      rintro e w3 ⟨rfl, hb⟩
      have B3 : Hid (Below (w.heap.size + 1) W w3) := B2.out.trans (hb.mono (by omega))
      have hz3 : W.heap.size ≤ w3.heap.size := B3.out.size
      have HC3 := Lib.hid (HC.out.below hb)
      have hown3 := Lib.hid (hown2.out.below hb)
      clear hb B2 HC hown2
      rcases Nat.eq_zero_or_pos r2 with h02 | h02
      · subst h02
        have hownA : Hid (∀ o, OwnS (w3.alloc o) (w.heap.size + 1) (.slice a4 nL c4) L) := fun o => hown3.out.below ((Below.refl _ _).alloc (Nat.le_refl _) _)
        have hcellA : Hid (∀ d, (w3.alloc (.cells #[str d] 9)).cell? ⟨w3.heap.size, 0, none⟩ = some (str d)) := fun d => by rw [World.cell?_alloc_at _ _ _ _ rfl]; rfl
        go_wp2_with (at_builtin; refine wpList_append_str _ rfl (.tmp 37) (.tmp 39) 108 rfl Tryz.underlying108 infoStr (w.heap.size + 1) (.slice a4 nL c4) L rfl (hownA.out _) ⟨w3.heap.size, 0, none⟩ 1 rfl ds (hcellA.out ds) (by have := hnL'.out; omega) (by simp; omega) ?_; intro v' w4 ho hgr; have ho' := Lib.hid ho; have hgr' := Lib.hid hgr; clear ho hgr)
        obtain ⟨a', c', rfl, _⟩ := ho'.out.form
        have B4 : Hid (Below (w.heap.size + 1) W w4) := (B3.out.alloc (by omega) _).grown hgr'.out (by simp; omega) hob'.out
        obtain rfl : M2 = 0 := by have := LC.out.1; simpa using this
        go_roundw
        case rel =>
          refine ⟨L ++ [ds], some ⟨wr.heap.size, 0, none⟩, 0, 0, a', c', rfl, rfl, Nat.zero_le _, ?_, IsLen.zero _, ho', ?_, ?_, B4⟩
          · exact Num.zeroAt _ _ _ _
          · show Pieces _ _ _
            rw [hds'.out, hlo'.out]
            exact hP.out.last hM0.out hM2'.out.symm
          · show _ ≤ _
            have := hnL'.out
            simp; omega
        case measure =>
          rw [numOf_eq HM.out, numOf_eq (Num.zeroAt .u64 B64 _ _)]
          exact hM0.out
      · have hlen : (18 : Int) - (ds.length : Int) = ((18 - ds.length : Nat) : Int) := by omega
        have hrp := Tryz.strings_Repeat ⟨#[48]⟩ (18 - ds.length) w3 (by omega) (by show 1 * (18 - ds.length) ≤ _; omega)
        have e48 : (⟨#[48]⟩ : ByteArray).data.toList = [48] := rfl
        rw [e48, zeros_pad] at hrp
        obtain ⟨zs, hzs⟩ : ∃ zs, zs = List.replicate (18 - ds.length) (48 : UInt8) := ⟨_, rfl⟩
        rw [← hzs] at hrp
        have hps : Hid (zs ++ ds = decs 18 lo) := by show _ = _; rw [hzs]; exact hpad'.out
        have hzl : zs.length ≤ 18 := by rw [hzs]; simp
        have hrp' := Lib.hid hrp
        clear e48 hzs hrp
        go_wp2_with fail
        refine hrp'.out.mono ?_
        rintro e w4 ⟨rfl, hb⟩
        have B4 : Hid (Below (w.heap.size + 1) W w4) := B3.out.trans (hb.mono (by omega))
        have hz4 : W.heap.size ≤ w4.heap.size := B4.out.size
        have HC4 := Lib.hid (HC3.out.below hb)
        have hown4 := Lib.hid (hown3.out.below hb)
        have hownA : Hid (∀ o, OwnS (w4.alloc o) (w.heap.size + 1) (.slice a4 nL c4) L) := fun o => hown4.out.below ((Below.refl _ _).alloc (Nat.le_refl _) _)
        have hcellA : Hid (∀ d, (w4.alloc (.cells #[d] 9)).cell? ⟨w4.heap.size, 0, none⟩ = some d) := fun d => by rw [World.cell?_alloc_at _ _ _ _ rfl]; rfl
        clear hb B3 HC3 hown3 hrp'
        go_wp2_with (at_builtin; refine wpList_append_str _ rfl (.tmp 37) (.tmp 39) 108 rfl Tryz.underlying108 infoStr (w.heap.size + 1) (.slice a4 nL c4) L rfl (hownA.out _) ⟨w4.heap.size, 0, none⟩ 1 rfl (zs ++ ds) ((hcellA.out _).trans (congrArg some (str_app zs ds))) (by have := hnL'.out; omega) (by simp; omega) ?_; intro v' w5 ho hgr; have ho' := Lib.hid ho; have hgr' := Lib.hid hgr; clear ho hgr)
        obtain ⟨a', c', rfl, _⟩ := ho'.out.form
        have B5 : Hid (Below (w.heap.size + 1) W w5) := (B4.out.alloc (by omega) _).grown hgr'.out (by simp; omega) hob'.out
        go_roundw
        case rel =>
          refine ⟨L ++ [zs ++ ds], some ⟨wr.heap.size, 0, none⟩, M2, r2, a', c', rfl, rfl, by omega, ?_, LC, ho', ?_, ?_, B5⟩
          · exact (HC4.out.below ((Below.refl _ _).alloc (Nat.le_refl _) _)).grown hgr'.out (fun e => Nat.lt_irrefl _ (hol.out _ e))
          · show Pieces _ _ _
            rw [hps.out, hlo'.out, hM2'.out]
            refine hP.out.more ?_
            rcases Nat.eq_zero_or_pos M2 with hx | hx
            · subst hx
              have := LC.out.uniq (IsLen.zero _)
              omega
            · have hx' := hx
              rw [hM2'.out] at hx'
              exact hx'
          · show _ ≤ _
            have := hnL'.out
            simp; omega
        case measure =>
          rw [numOf_eq HM.out, numOf_eq ((HC4.out.below ((Below.refl _ _).alloc (Nat.le_refl _) _)).grown hgr'.out (fun e => Nat.lt_irrefl _ (hol.out _ e)))]
          exact hlt.out
end Go.Proofs.YtmobnjlbbhhedaaGreatDoor
