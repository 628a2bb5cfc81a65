/- The walk of outriggerref03.Parse. -/
import Derived.Test.YtmobnjlbbhhedaaDoorRefT
import Derived.Test.YtmobnjlbbhhedaaDoorRefD
import Derived.Test.YtmobnjlbbhhedaaDoorParse
set_option linter.unusedVariables false
set_option linter.unusedSimpArgs false
namespace Go.Proofs.YtmobnjlbbhhedaaDoor
open Go.RowKit

def RefParseEnd (nb : Bool) (D : List UInt8) (w : World) (e : Ending) (w' : World) : Prop :=
  Below w.heap.size w w' ∧ ((GoodText nb D ∧ ∃ v, e = .returned (.tuple #[v, .bool true]) ∧ RNum w' v (sgn nb (val D)) 1000) ∨
      (¬ GoodText nb D ∧ e = .returned (.tuple #[.agg #[.bool false, .slice none 0 0], .bool false])))
/-- It is a slice of digits of this number. -/
def IsM (k : IntKind) (B X L : Nat) : Value → World → Prop := fun v w => ∃ A n c, v = .slice A n c ∧ Num k B w (.slice A n c) X n ∧ n ≤ L
theorem pers_isM (k : IntKind) (B X L : Nat) : Pers (IsM k B X L) := fun v w w' ⟨A, n, c, e, h, m⟩ hE => ⟨A, n, c, e, h.below hE, m⟩
set_option maxHeartbeats 4000000 in
set_option maxRecDepth 100000 in
theorem refParse_calls (L : List UInt8) (hL : L.length ≤ 600) (w : World) :
    Calls Tryd.prog 28 #[.string ⟨L.toArray⟩] w fun e w' => RefParseEnd (negOf L) (bodyOf L) w e w' := by
  obtain ⟨nb, hnb⟩ : ∃ nb, nb = negOf L := ⟨_, rfl⟩
  obtain ⟨D, hD⟩ : ∃ D, D = bodyOf L := ⟨_, rfl⟩
  obtain ⟨off, hoff⟩ : ∃ off, off = if nb then 1 else 0 := ⟨_, rfl⟩
  have hLD' : (if nb then 45 :: D else D) = L := by rw [hnb, hD]; exact of_neg_body L
  have hlen : L.length = D.length + off := by
    rw [← hLD', hoff]
    cases nb <;> simp
  have hget : Hid (∀ i (h : i < L.length), off ≤ i → ∃ hh, L[i] = D[i - off]'hh) := by
    intro i h ho
    refine ⟨by omega, ?_⟩
    have e := List.getElem_of_eq hLD'.symm h
    rw [e]
    cases nb with
    | false => simp [hoff]
    | true =>
      simp only [if_true] at hoff ⊢
      subst hoff
      rw [List.getElem_cons, dif_neg (by omega)]
  have hfirst : Hid (∀ (h : 0 < L.length), nb = decide (L[0] = 45)) := by
    intro h
    rw [hnb]
    unfold negOf
    rw [List.head?_eq_getElem?, List.getElem?_eq_getElem h]
    simp
  have hoff1 : off ≤ 1 := by rw [hoff]; cases nb <;> simp
  have hoffH := Lib.hid hoff
  have hLD := Lib.hid hLD'
  rw [← hnb, ← hD]
  clear hnb hD hoff hLD'
  go_enter Tryd.func28, Tryd.ntmps28
  go_wp2_with fail
  have hblk0 : Hid ((w.alloc (.cells #[.bool false, .slice none 0 0] 47)).heap[w.heap.size]? = some (.cells #[.bool false, .slice none 0 0] 47 (0, 0))) := alloc_at rfl
  have hB0 : Hid (Below w.heap.size w (w.alloc (.cells #[.bool false, .slice none 0 0] 47))) := (Below.refl _ w).alloc (Nat.le_refl _) _
  have hsW : (w.alloc (.cells #[.bool false, .slice none 0 0] 47)).heap.size = w.heap.size + 1 := by simp
  generalize (w.alloc (.cells #[.bool false, .slice none 0 0] 47)) = W at *
  have hlit : Hid (∀ (w : World) x, x < B16 → Num .u32 B16 (w.alloc (.cells #[.int .u32 x] 64)) (.slice (some ⟨w.heap.size, 0, none⟩) 1 1) x 1) := fun w x hx => lit16 w x hx
  go_loopw [4, 5, 6] (fun v4 v5 v6 wr => ∃ (i r c : Nat) (A : Option Addr) (ng : Bool), v6 = .int .i64 i ∧ v5 = .bool ng ∧ ng = (nb && decide (0 < i)) ∧ v4 = .slice A r c ∧ i ≤ L.length ∧ Hid (Num .u32 B16 wr (.slice A r c) (val (D.take (i - off))) r) ∧ Hid (IsLen B16 (val (D.take (i - off))) r) ∧ r ≤ i ∧ Hid (∀ c ∈ D.take (i - off), isDig c = true) ∧ Hid (Below W.heap.size W wr)) (fun _ _ v _ => L.length - (intOf v).toNat)
  case atStart => exact ⟨0, 0, 0, none, false, rfl, rfl, by simp, rfl, Nat.zero_le _, by rw [Nat.zero_sub]; exact Num.nil .., by rw [Nat.zero_sub]; exact IsLen.zero _, Nat.le_refl _, (fun c hc => by simp at hc), Below.refl _ _⟩
  case round =>
    obtain ⟨i, r, c, A, ng, rfl, rfl, hng, rfl, hi, HN, LN, hr, hdig, hbel⟩ := hrel
    by_cases hlt : i < L.length
    · obtain ⟨b, hb⟩ : ∃ b, b = L[i]'hlt := ⟨_, rfl⟩
      have hib : ∀ h, (({ data := L.toArray } : ByteArray)[i]'h) = b := fun h => by rw [hb]; rfl
      have hbH := Lib.hid hb
      have hblk := (hbel.out.block w.heap.size (by omega)).trans hblk0.out
      clear hb
      by_cases hA : i = 0 ∧ nb = true
      · obtain ⟨rfl, rfl⟩ := hA
        have hoff1' : off = 1 := hoffH.out
        have hb45 : b = 45 := by
          have := hfirst.out hlt
          rw [← hbH.out] at this
          simpa using this.symm
        have hb45n : ((b.toNat : Int) == 45) = true := by rw [hb45]; rfl
        subst hoff1'
        clear hb45 hblk
        go_wp2_with fail
        go_roundw
        case rel => exact ⟨1, r, c, A, true, by go_num, rfl, rfl, rfl, hlt, HN, LN, by omega, hdig, hbel⟩
        case measure => simp [intOf]; try omega
      · have hio : off ≤ i := by
          rcases Nat.eq_zero_or_pos i with h | h
          · have hn : nb = false := by
              cases nb with
              | false => rfl
              | true => exact absurd ⟨h, rfl⟩ hA
            have := hoffH.out
            rw [hn] at this
            simp at this
            omega
          · omega
        have hb45 : i = 0 → ((b.toNat : Int) == 45) = false := by
          intro h
          subst h
          have hn : nb = false := by
            cases nb with
            | false => rfl
            | true => exact absurd ⟨rfl, rfl⟩ hA
          have := hfirst.out hlt
          rw [← hbH.out, hn] at this
          have hne : b ≠ 45 := by simpa using this.symm
          simp
          intro e
          exact hne (UInt8.toNat_inj.1 (show b.toNat = (45 : UInt8).toNat from by show b.toNat = 45; omega))
        have hDi : i - off < D.length := by omega
        obtain ⟨h', hg⟩ := hget.out i hlt hio
        rw [← hbH.out] at hg
        have hgH := Lib.hid hg
        obtain ⟨bn, hbn⟩ : ∃ n, n = b.toNat := ⟨_, rfl⟩
        have hib2 : ∀ h, (({ data := L.toArray } : ByteArray)[i]'h).toNat = bn := fun h => by rw [hib h, hbn]
        rw [← hbn] at hb45
        have hb256 : bn < 256 := by rw [hbn]; exact b.toNat_lt
        have hvt := val_take (D := D) (i := i - off) hDi
        rw [← hg, ← hbn] at hvt
        have hio1 : i - off + 1 = i + 1 - off := by omega
        rw [hio1] at hvt
        have hvtH := Lib.hid hvt
        have hbnH := Lib.hid hbn
        have hz : i = 0 ∨ 0 < i := by omega
        have hnH := Lib.hid hng
        clear hib hg hbn hvt hA hng
        by_cases hd : 48 ≤ bn ∧ bn ≤ 57
        · obtain ⟨hd1, hd2⟩ := hd
          obtain ⟨d, hdd⟩ : ∃ d, d = bn - 48 := ⟨_, rfl⟩
          have hdw : IntKind.u8.wrap ((bn : Int) - 48) = (d : Int) := by rw [IntKind.wrap_u8]; omega
          have hd9 : d ≤ 9 := by omega
          have hw32 := wrap_u32 d (by omega)
          have hddH := Lib.hid hdd
          have Ba : Hid (∀ o, Below wr.heap.size wr (wr.alloc o)) := fun o => (Below.refl _ _).alloc (Nat.le_refl _) _
          clear hdd hblk
          have hi0 : (((i : Int) == 0) = true ∧ ((bn : Int) == 45) = false) ∨ ((i : Int) == 0) = false := by
            rcases hz with h | h
            · exact .inl ⟨by rw [h]; rfl, hb45 h⟩
            · exact .inr (by simp; omega)
          have hdig2 : Hid (∀ x ∈ D.take (i + 1 - off), isDig x = true) := by
            intro x hx
            rw [← hio1, List.take_succ_eq_append_getElem hDi, List.mem_append] at hx
            rcases hx with hx | hx
            · exact hdig.out x hx
            · rw [List.mem_singleton, ← hgH.out] at hx
              rw [hx]
              simp [isDig, ← hbnH.out, hd1, hd2]
          have hng2 : Hid (ng = (nb && decide (0 < i + 1))) := by
            show _ = _
            rw [hnH.out]
            cases nb with
            | false => rfl
            | true =>
              have : off = 1 := hoffH.out
              simp; omega
          clear hb45 hz
          rcases hi0 with ⟨hz, hb45⟩ | hz
          all_goals
            go_wp2_with fail
            refine wp_region_gives0 10 [IsV (.slice A r c), IsM .u32 B16 10 1, IsN .u32 B16 (val (D.take (i - off)) * 10) (r + 1), IsV (.string ⟨L.toArray⟩), IsV (.int .i64 i), IsV (.int .u8 bn), IsV (.int .u8 d), IsV (.int .u32 d), IsM .u32 B16 d 1, IsN .u32 B16 (val (D.take (i + 1 - off))) (i + 1)]
              (by kernel_rfl) (by kernel_rfl) rfl ⟨pers_isV _, pers_isM _ _ _ _, pers_isN _ _ _ _, pers_isV _, pers_isV _, pers_isV _, pers_isV _, pers_isV _, pers_isM _ _ _ _, pers_isN _ _ _ _, trivial⟩ ?_ ?_
            · simp only [List.take_succ_cons, List.take_zero, Obl0, putAll, Act.put, List.setIfInBounds_toArray, List.set_cons_zero, List.set_cons_succ, Nat.reduceAdd]
              refine ⟨?_, ?_, ?_, ?_, ?_, ?_, ?_, ?_, ?_, ?_, trivial⟩
              all_goals
                intro xs w' hE hf K hK
                simp only [factsOf, Region.binds, List.getElem?_cons_zero, List.getElem?_cons_succ, IsV, forall_const, true_and, and_true] at hf
              · go_simp
                exact hK.out _ _ rfl (Ext.refl _)
              · go_simp
                exact hK.out _ _ ⟨_, _, _, rfl, hlit.out w' 10 (by decide), Nat.le_refl _⟩ (Ext.alloc _ _)
              · obtain ⟨f1, A3, n3, c3, f2, h3, h3l⟩ := hf
                simp only [f1, f2] at hK ⊢
                go_simp
                refine (refMul_calls _ _ (val (D.take (i - off))) 10 r n3 _ (HN.out.below hE) h3 (by omega) (by omega)).mono ?_
                rintro e w1 ⟨A1, r1, c1, rfl, h1, l1, hb⟩
                have hr1 : r1 ≤ r + 1 := l1.le (by
                  rw [Nat.pow_succ]
                  exact Nat.mul_lt_mul'' LN.out.1 (by decide))
                exact hK.out _ _ ⟨_, _, _, rfl, h1, l1, hr1⟩ hb
              · go_simp
                exact hK.out _ _ rfl (Ext.refl _)
              · go_simp
                exact hK.out _ _ rfl (Ext.refl _)
              · obtain ⟨f1, f2⟩ := hf
                simp only [f1, f2] at hK ⊢
                go_simp
                exact hK.out _ _ rfl (Ext.refl _)
              · simp only [hf] at hK ⊢
                go_simp
                exact hK.out _ _ rfl (Ext.refl _)
              · simp only [hf] at hK ⊢
                go_simp
                exact hK.out _ _ rfl (Ext.refl _)
              · simp only [hf] at hK ⊢
                go_simp
                exact hK.out _ _ ⟨_, _, _, rfl, hlit.out w' d (by rw [B16_eq]; omega), Nat.le_refl _⟩ (Ext.alloc _ _)
              · obtain ⟨⟨A3, n3, c3, f1, h3, h3l, h3b⟩, ⟨A4, n4, c4, f2, h4, h4b⟩, _⟩ := hf
                simp only [f1, f2] at hK ⊢
                go_simp
                refine (refAdd_calls _ _ (val (D.take (i - off)) * 10) d n3 n4 _ h3 h4 (by omega) (by omega)).mono ?_
                rintro e w2 ⟨A2, r2, c2, rfl, h2, l2, hb⟩
                rw [hddH.out, ← hvtH.out] at h2 l2
                have hr2 := l2.le (Nat.lt_of_lt_of_le (val_lt _ _ rfl hdig2.out) (Nat.pow_le_pow_left (show 10 ≤ B16 by decide) _))
                rw [List.length_take] at hr2
                exact hK.out _ _ ⟨_, _, _, rfl, h2, l2, by omega⟩ hb
            simp only [List.drop_succ_cons, List.drop_zero, List.take_succ_cons, List.take_zero, putAll, Act.put, List.setIfInBounds_toArray, List.set_cons_zero, List.set_cons_succ, Nat.reduceAdd]
            intro xs w' hE hf
            simp only [factsAll, IsV, IsN, Nat.reduceAdd] at hf
            obtain ⟨e0, e1, e2, e3, e4, e5, e6, e7, e8, ⟨A5, n5, c5, e9, h5, l5, hn5⟩, _⟩ := hf
            simp only [e0, e3, e4, e5, e6, e7, e9]
            have B2 : Hid (Below W.heap.size W w') := hbel.out.trans (hE.mono hbel.out.size)
            have H2 := Lib.hid h5
            have L2 := Lib.hid l5
            clear hE e0 e1 e2 e3 e4 e5 e6 e7 e8 e9 h5 l5 hbel HN
            go_wp2_with fail
            go_roundw
            case rel => exact ⟨i + 1, n5, c5, A5, ng, by go_num, rfl, hng2.out, rfl, hlt, H2, L2, hn5, hdig2, B2⟩
            case measure => simp [intOf]; try omega
        · have hng : Hid (¬ GoodText nb D) := by
            intro hg
            have := hg.1 b (by rw [hgH.out]; exact List.getElem_mem _)
            simp [isDig, ← hbnH.out] at this
            exact hd this
          obtain ⟨k0, k1, k2, k3⟩ := kept_cells hblk
          obtain ⟨q0, q1⟩ := kept_reads hblk (.bool false) (.slice none 0 0)
          have q0' : ((wr.setCell ⟨w.heap.size, 0, none⟩ (.bool false)).setCell ⟨w.heap.size, 1, none⟩ (.slice none 0 0)).cell? ⟨w.heap.size, 0, none⟩ = some (.bool false) := (World.cell?_setCell_other _ _ _ _ (by simp)).trans q0
          have hBE : Hid (Below w.heap.size w ((wr.setCell ⟨w.heap.size, 0, none⟩ (.bool false)).setCell ⟨w.heap.size, 1, none⟩ (.slice none 0 0))) := ((hB0.out.trans (hbel.out.mono (by omega))).setCell (Nat.le_refl _) _).setCell (Nat.le_refl _) _
          have hd2 : bn < 48 ∨ 48 ≤ bn ∧ 57 < bn := by omega
          have hi0 : (((i : Int) == 0) = true ∧ ((bn : Int) == 45) = false) ∨ ((i : Int) == 0) = false := by
            rcases hz with h | h
            · exact .inl ⟨by rw [h]; rfl, hb45 h⟩
            · exact .inr (by simp; omega)
          clear hb45 hz hd hbel HN hblk
          rcases hi0 with ⟨hz, hb45⟩ | hz
          all_goals rcases hd2 with hd | ⟨hd1, hd2⟩
          all_goals
            go_wp2_with fail
            refine bodyPost_ret (v := .tuple #[.agg #[.bool false, .slice none 0 0], .bool false]) (by simp [results, Tryd.results28, go_sem, q0, q0', q1]) rfl ?_
            exact ⟨hBE.out, .inr ⟨hng.out, rfl⟩⟩
    · obtain rfl : i = L.length := by omega
      have hDL : L.length - off = D.length := by omega
      rw [hDL, List.take_length] at HN LN hdig
      have hng2 : ng = nb := by
        rw [hng]
        cases nb with
        | false => rfl
        | true =>
          have : off = 1 := hoffH.out
          simp; omega
      subst hng2
      obtain ⟨iz, hiz⟩ : ∃ iz, iz = Lib.itoa (sgn ng (val D)) := ⟨_, rfl⟩
      have tc : Hid (∀ w v, RNum w v (sgn ng (val D)) r → Calls Tryd.prog 25 #[v] w fun e w' => e = .returned (.string ⟨iz.toArray⟩) ∧ Below w.heap.size w w') := fun w v h => by
        rw [hiz]; exact refText_calls v _ r w h (by omega)
      have nc := Lib.hid (new_calls ng (.slice A r c) (val D) r wr HN.out)
      have hgood : Hid (GoodText ng D ↔ iz = L) := by
        show _ ↔ _
        rw [hiz, ← hLD.out]
        constructor
        · exact fun h => h.text.1
        · intro h
          apply Classical.byContradiction
          intro hn
          exact not_good hdig.out hn h
      have hblk := (hbel.out.block w.heap.size (by omega)).trans hblk0.out
      have hsr := hbel.out.size
      clear hiz hng HN
      go_wp2_with fail
      refine nc.out.mono ?_
      rintro e w1 ⟨v1, rfl, hR, hb⟩
      have hR' : RNum w1 v1 (sgn ng (val D)) r := hR
      have HR := Lib.hid hR'
      have hblk1 := (hb.block _ (by omega)).trans hblk
      have B1 : Hid (Below W.heap.size W w1) := hbel.out.trans (hb.mono hsr)
      obtain ⟨b1, A1, m1, c1, rfl⟩ := hR.form
      clear hR hR' hb nc hblk hbel
      have hBa : Hid (∀ o, Below w1.heap.size w1 (w1.alloc o)) := fun o => (Below.refl _ _).alloc (Nat.le_refl _) _
      have hcb : Hid (∀ t, (w1.alloc (.cells #[.bool b1, .slice A1 m1 c1] t)).cell? ⟨w1.heap.size, 0, none⟩ = some (.bool b1) ∧ (w1.alloc (.cells #[.bool b1, .slice A1 m1 c1] t)).cell? ⟨w1.heap.size, 1, none⟩ = some (.slice A1 m1 c1)) := fun t => by
        obtain ⟨a0, a1, _, _⟩ := kept_cells (alloc_at (w := w1) (o := .cells #[.bool b1, .slice A1 m1 c1] t) rfl)
        exact ⟨a0, a1⟩
      go_wp2_with fail
      refine (tc.out _ _ (HR.out.below (hBa.out _))).mono ?_
      rintro e w2 ⟨rfl, hb⟩
      have hb2 : Below w1.heap.size w1 w2 := (hBa.out _).trans (hb.mono (by simp))
      have hc0 := cell_below hb (hcb.out _).1
      have hc1 := cell_below hb (hcb.out _).2
      have hblk2 := (hb2.block _ (by have := B1.out.size; omega)).trans hblk1
      have HR2 := Lib.hid (HR.out.below hb2)
      have B2 : Hid (Below W.heap.size W w2) := B1.out.trans (hb2.mono B1.out.size)
      clear hb hb2 hcb hBa hblk1 HR B1 tc
      have hBw : Hid (Below w.heap.size w w2) := hB0.out.trans (B2.out.mono (by omega))
      obtain ⟨k0, k1, k2, k3⟩ := kept_cells hblk2
      by_cases hg : iz = L
      · have hbe : (iz == L) = true := by simp [hg]
        have hgd := Lib.hid (hgood.out.2 hg)
        have hput := Lib.hid (RNum.put hBw.out (Nat.le_refl _) hblk2 HR2.out)
        obtain ⟨q0, q1⟩ := kept_reads hblk2 (.bool b1) (.slice A1 m1 c1)
        have q0' : ((w2.setCell ⟨w.heap.size, 0, none⟩ (.bool b1)).setCell ⟨w.heap.size, 1, none⟩ (.slice A1 m1 c1)).cell? ⟨w.heap.size, 0, none⟩ = some (.bool b1) := (World.cell?_setCell_other _ _ _ _ (by simp)).trans q0
        clear hg hblk2 hgood
        go_wp2_with fail
        refine bodyPost_ret (v := .tuple #[.agg #[.bool b1, .slice A1 m1 c1], .bool true]) (by simp [results, Tryd.results28, go_sem, q0, q0', q1]) rfl ?_
        exact ⟨hput.out.2, .inl ⟨hgd.out, _, rfl, hput.out.1.le (by omega)⟩⟩
      · have hbe : (iz == L) = false := by simp [hg]
        have hgd : Hid (¬ GoodText ng D) := fun h => hg (hgood.out.1 h)
        obtain ⟨q0, q1⟩ := kept_reads hblk2 (.bool false) (.slice none 0 0)
        have q0' : ((w2.setCell ⟨w.heap.size, 0, none⟩ (.bool false)).setCell ⟨w.heap.size, 1, none⟩ (.slice none 0 0)).cell? ⟨w.heap.size, 0, none⟩ = some (.bool false) := (World.cell?_setCell_other _ _ _ _ (by simp)).trans q0
        have hBE : Hid (Below w.heap.size w ((w2.setCell ⟨w.heap.size, 0, none⟩ (.bool false)).setCell ⟨w.heap.size, 1, none⟩ (.slice none 0 0))) := (hBw.out.setCell (Nat.le_refl _) _).setCell (Nat.le_refl _) _
        clear hg hblk2 hgood
        go_wp2_with fail
        refine bodyPost_ret (v := .tuple #[.agg #[.bool false, .slice none 0 0], .bool false]) (by simp [results, Tryd.results28, go_sem, q0, q0', q1]) rfl ?_
        exact ⟨hBE.out, .inr ⟨hgd.out, rfl⟩⟩
end Go.Proofs.YtmobnjlbbhhedaaDoor
