/- The walk of split.Parse. -/
import Derived.Test.YtmobnjlbbhhedaaDoorStr
import Derived.Test.YtmobnjlbbhhedaaDoorShelfB
import Derived.Test.YtmobnjlbbhhedaaDoorNatC
import Derived.WalkMore
import Derived.Test.YtmobnjlbbhhedaaDoorRefFa
import Derived.Laws.IdiomStrings
set_option linter.unusedVariables false
set_option linter.unusedSimpArgs false
namespace Go.Proofs.YtmobnjlbbhhedaaDoor
open Go.RowKit

theorem prefix45 (L : List UInt8) : Lib.hasPrefix L [45] = negOf L := by
  unfold Lib.hasPrefix negOf
  cases L with
  | nil => rfl
  | cons c t =>
    by_cases h : c = 45
    · subst h; simp
    · have h' : ¬ 45 = c := fun e => h e.symm
      simp [List.isPrefixOf, h, h']
theorem trim45 (L : List UInt8) : Lib.trimPrefix L [45] = bodyOf L := by
  unfold Lib.trimPrefix bodyOf
  rw [prefix45]
  split
  · simp
  · rfl
theorem conv_bytes (D : List UInt8) (w : World) : ∃ cap w', (convert 9 88 (.string ⟨D.toArray⟩)).run Tryd.prog w = .ok (.slice (some ⟨w.heap.size, 0, none⟩) D.length cap) w' ∧ Below w.heap.size w w' ∧ w'.heap.size = w.heap.size + 1 ∧
    ∀ j (hj : j < D.length), w'.cell? ⟨w.heap.size, j, none⟩ = some (.int .u8 (D[j].toNat : Int)) := by
  refine ⟨_, _, run_bytes_of_string w 9 88 5 ⟨D.toArray⟩ Tryd.underlying9 Tryd.underlying88 Tryd.underlying5, ?_, ?_, ?_⟩
  · exact ((Below.refl _ w).drew).alloc (Nat.le_refl _) _
  · show (w.heap.push _).size = _
    simp
  · intro j hj
    have := World.cell?_alloc_mark w.drew (bytesRow ⟨D.toArray⟩ (grownCap w (⟨D.toArray⟩ : ByteArray).size 0 5)) 5 ((bytesRow ⟨D.toArray⟩ (grownCap w (⟨D.toArray⟩ : ByteArray).size 0 5)).size, (bytesRow ⟨D.toArray⟩ (grownCap w (⟨D.toArray⟩ : ByteArray).size 0 5)).size + 1) j
    refine this.trans ?_
    rw [bytesRow_at _ _ j (by simpa using hj)]
    simp
theorem val_take {D : List UInt8} {i : Nat} (h : i < D.length) : val (D.take (i + 1)) = val (D.take i) * 10 + (D[i].toNat - 48) := by
  rw [List.take_succ_eq_append_getElem h, val_snoc]
theorem lit64 (w : World) (x : Nat) (hx : x < B64) : Num .u64 B64 (w.alloc (.cells #[.int .u64 x] 36)) (.slice (some ⟨w.heap.size, 0, none⟩) 1 1) x 1 :=
  Num.one hx (by rw [World.cell?_alloc_at _ _ _ _ rfl]; rfl)
/-- The loop of split.Parse, and what comes behind it. -/
def ParseEnd (nb : Bool) (D : List UInt8) (w : World) (e : Ending) (w' : World) : Prop :=
  Below w.heap.size w w' ∧ ((GoodText nb D ∧ ∃ A r, e = .returned (.tuple #[.agg #[.bool nb, .slice A r r], .nilIface]) ∧ Num .u64 B64 w' (.slice A r r) (val D) r ∧ IsLen B64 (val D) r) ∨
      (¬ GoodText nb D ∧ e = .returned (.tuple #[.agg #[.bool false, .slice none 0 0], errN 4])))
set_option maxHeartbeats 4000000 in
set_option maxRecDepth 100000 in
theorem parse_calls (L : List UInt8) (hL : L.length ≤ 600) (w : World) :
    Calls Tryd.prog 24 #[.string ⟨L.toArray⟩] w fun e w' => ParseEnd (negOf L) (bodyOf L) w e w' := by
  have e1 : (⟨L.toArray⟩ : ByteArray).data.toList = L := by simp
  have e2 : (⟨#[45]⟩ : ByteArray).data.toList = [45] := rfl
  obtain ⟨nb, hnb⟩ : ∃ nb, nb = negOf L := ⟨_, rfl⟩
  obtain ⟨D, hD⟩ : ∃ D, D = bodyOf L := ⟨_, rfl⟩
  rw [← hnb, ← hD]
  have hLD : Hid ((if nb then 45 :: D else D) = L) := by
    show _ = _
    rw [hnb, hD]; exact of_neg_body L
  have cp : Hid (∀ w, Calls Tryd.prog 56 #[.string ⟨L.toArray⟩, .string ⟨#[45]⟩] w fun e w' => e = .returned (.tuple #[.string ⟨D.toArray⟩, .bool nb]) ∧ w' = w) := by
    intro w
    have := Tryd.strings_CutPrefix ⟨L.toArray⟩ ⟨#[45]⟩ w
    rw [e1, e2, trim45, prefix45, ← hnb, ← hD] at this
    exact this
  clear e1 e2 hnb hD
  cases D with
  | nil =>
    have hng : Hid (¬ GoodText nb []) := fun h => h.2.1 rfl
    go_enter Tryd.func24, Tryd.ntmps24
    go_wp2_with fail
    refine wp_scope_straight ?_
    go_wp2_with fail
    refine (cp.out _).mono ?_
    rintro e w' ⟨rfl, rfl⟩
    go_wp2_with fail
    have hblk := alloc_at (w := w) (o := .cells #[.bool false, .slice none 0 0] 45) rfl
    obtain ⟨k0, k1, k2, k3⟩ := kept_cells hblk
    simp only [Exit.noGoto_ret]
    go_big_unhide
    refine bodyPost_ret (v := .tuple #[.agg #[.bool false, .slice none 0 0], errN 4]) (by simp [results, Tryd.results24, go_sem, k0, k1, errN]) rfl ?_
    exact ⟨(Below.refl _ _).alloc (Nat.le_refl _) _, .inr ⟨hng.out, rfl⟩⟩
  | cons c t =>
    have hDl : t.length ≤ 600 := by
      have := congrArg List.length hLD.out
      cases nb <;> simp at this <;> omega
    have hLi : (L.length : Int) ≤ 600 := by omega
    have hidx : ∀ h, (({ data := (c :: t).toArray } : ByteArray)[0]'h) = c := fun _ => rfl
    by_cases hbad : c.toNat = 48 ∧ L ≠ [48]
    · obtain ⟨h48, hL1⟩ := hbad
      have h48b : ((c.toNat : Int) == 48) = true := by simp [h48]
      have hL2 : (L == [48]) = false := by simp [hL1]
      go_enter Tryd.func24, Tryd.ntmps24
      go_wp2_with fail
      refine wp_scope_straight ?_
      go_wp2_with fail
      refine (cp.out _).mono ?_
      rintro e w' ⟨rfl, rfl⟩
      go_wp2_with fail
      have hng : ¬ GoodText nb (c :: t) := by
        intro hg
        have hc : c = 48 := UInt8.toNat_inj.1 h48
        obtain ⟨h1, h2⟩ := hg.2.2 (by rw [hc]; rfl)
        have := hLD.out
        rw [h1, h2] at this
        exact hL1 this.symm
      have hblk := alloc_at (w := w) (o := .cells #[.bool false, .slice none 0 0] 45) rfl
      obtain ⟨k0, k1, k2, k3⟩ := kept_cells hblk
      simp only [Exit.noGoto_ret]
      go_big_unhide
      refine bodyPost_ret (v := .tuple #[.agg #[.bool false, .slice none 0 0], errN 4]) (by simp [results, Tryd.results24, go_sem, k0, k1, errN]) rfl ?_
      exact ⟨(Below.refl _ _).alloc (Nat.le_refl _) _, .inr ⟨hng, rfl⟩⟩
    · have hhead : Hid ((c :: t).head? = some 48 → nb = false ∧ c :: t = [48]) := by
        intro hh
        have hc : c = 48 := by simpa using hh
        have hL1 : L = [48] := by
          apply Classical.byContradiction
          intro hne
          exact hbad ⟨by rw [hc]; rfl, hne⟩
        have := hLD.out
        rw [hL1] at this
        cases nb with
        | true => simp at this
        | false => exact ⟨rfl, this⟩
      have hor : (c.toNat = 48 ∧ L = [48]) ∨ c.toNat ≠ 48 := by
        by_cases h : c.toNat = 48
        · left
          exact ⟨h, Classical.byContradiction fun hne => hbad ⟨h, hne⟩⟩
        · exact .inr h
      obtain ⟨D, hDD⟩ : ∃ D, D = c :: t := ⟨_, rfl⟩
      have hDl2 : D.length ≤ 601 := by rw [hDD, List.length_cons]; omega
      have hDne : Hid (D ≠ []) := fun e => by rw [hDD] at e; cases e
      have hDD' := Lib.hid hDD
      rw [← hDD] at hhead hLD
      clear hbad hDD hDl
      have hlit : Hid (∀ (w : World) x, x < B64 → Num .u64 B64 (w.alloc (.cells #[.int .u64 x] 36)) (.slice (some ⟨w.heap.size, 0, none⟩) 1 1) x 1) := fun w x hx => lit64 w x hx
      have hfacts : ∃ hh : Bool, ((c.toNat : Int) == 48) = hh ∧ (hh = true → (L == [48]) = true) := by
        rcases hor with ⟨h48, hL1⟩ | h48
        · exact ⟨true, by simp [h48], fun _ => by simp [hL1]⟩
        · exact ⟨false, by simp; omega, fun h => by cases h⟩
      clear hor
      obtain ⟨hh, h48b, hL2⟩ := hfacts
      cases hh
      all_goals
        try simp only [forall_const, Bool.false_eq_true, false_implies] at hL2
        go_enter Tryd.func24, Tryd.ntmps24
        go_wp2_with fail
        refine wp_scope_straight ?_
        go_wp2_with fail
        refine (cp.out _).mono ?_
        rintro e w' ⟨rfl, rfl⟩
        go_wp2_with fail
        refine wp_label ?_
        obtain ⟨cap, W, hcv, hbW, hsW, hcW⟩ := conv_bytes (c :: t) (w.alloc (.cells #[.bool false, .slice none 0 0] 45))
        have hcell : Hid (∀ i (hi : i < D.length), W.cell? ⟨w.heap.size + 1, i, none⟩ = some (.int .u8 (D[i].toNat : Int))) := by
          intro i hi
          have hi' : i < (c :: t).length := by rw [← hDD'.out]; exact hi
          have := hcW i hi'
          rw [show (w.alloc (.cells #[.bool false, .slice none 0 0] 45)).heap.size = w.heap.size + 1 by simp] at this
          rw [this]
          congr 4
          exact (List.getElem_of_eq hDD'.out hi).symm
        have hblkW : Hid (W.heap[w.heap.size]? = some (.cells #[.bool false, .slice none 0 0] 45 (0, 0))) := (hbW.block _ (by simp)).trans (alloc_at rfl)
        have hBW : Hid (Below w.heap.size w W) := ((Below.refl _ w).alloc (Nat.le_refl _) _).trans (hbW.mono (by simp))
        have hszW : W.heap.size = w.heap.size + 2 := by rw [hsW]; simp
        have hDt : D.length = t.length + 1 := by rw [hDD'.out]; rfl
        clear hcW hbW hsW
        go_wp2_with fail
        clear hcv
        go_loopw [6, 7, 36] (fun v6 v7 v36 wr => ∃ (i r : Nat) (A : Option Addr), v36 = .int .i64 i ∧ v7 = .bool false ∧ v6 = .slice A r r ∧ i ≤ t.length + 1 ∧ Hid (Num .u64 B64 wr (.slice A r r) (val (D.take i)) r) ∧ Hid (IsLen B64 (val (D.take i)) r) ∧ r ≤ i ∧ Hid (∀ c ∈ D.take i, isDig c = true) ∧ Hid (Below W.heap.size W wr)) (fun _ _ v _ => t.length + 1 - (intOf v).toNat)
        case atStart => exact ⟨0, 0, none, rfl, rfl, rfl, Nat.zero_le _, Num.nil .., IsLen.zero _, Nat.le_refl _, (fun c hc => by simp at hc), Below.refl _ _⟩
        case round =>
          obtain ⟨i, r, A, rfl, rfl, rfl, hi, HN, LN, hr, hdig, hbel⟩ := hrel
          by_cases hlt : i < t.length + 1
          · obtain ⟨b, hb⟩ : ∃ b, b = D[i]'(by omega) := ⟨_, rfl⟩
            have hc8 := (hbel.out.cell (by simp; omega)).trans (hcell.out i (by omega))
            rw [← hb] at hc8
            obtain ⟨bn, hbn⟩ : ∃ n, n = b.toNat := ⟨_, rfl⟩
            rw [← hbn] at hc8
            have hb256 : bn < 256 := by rw [hbn]; exact b.toNat_lt
            have hvt := val_take (D := D) (i := i) (by omega)
            rw [← hb, ← hbn] at hvt
            have hbH := Lib.hid hb
            have hbnH := Lib.hid hbn
            have hvtH := Lib.hid hvt
            clear hb hbn hvt
            have hblk := (hbel.out.block w.heap.size (by omega)).trans hblkW.out
            by_cases hd : 48 ≤ bn ∧ bn ≤ 57
            · obtain ⟨hd1, hd2⟩ := hd
              obtain ⟨d, hdd⟩ : ∃ d, d = bn - 48 := ⟨_, rfl⟩
              have hdw : IntKind.u8.wrap ((bn : Int) - 48) = (d : Int) := by rw [IntKind.wrap_u8]; omega
              have hd9 : d ≤ 9 := by omega
              have hddH := Lib.hid hdd
              have Ba : Hid (∀ o, Below wr.heap.size wr (wr.alloc o)) := fun o => (Below.refl _ _).alloc (Nat.le_refl _) _
              clear hdd hblk
              go_wp2_with fail
              refine (natMul_calls _ _ (val (D.take i)) 10 r 1 _ (HN.out.below (Ba.out _)) (hlit.out wr 10 (by decide)) (fun a b ha hb => by
                have h1 := ha.uniq LN.out
                have h2 := hb.le (show 10 < B64 ^ 1 by decide)
                omega)).mono ?_
              rintro e w1 ⟨A1, r1, rfl, h1, l1, hb⟩
              have H1 := Lib.hid h1
              have hr1 : r1 ≤ r + 1 := l1.le (by
                rw [Nat.pow_succ]
                exact Nat.mul_lt_mul'' LN.out.1 (by decide))
              have B1 : Hid (Below W.heap.size W w1) := hbel.out.trans (((Ba.out _).trans (hb.mono (by simp))).mono hbel.out.size)
              clear h1 l1 hb hbel HN
              go_wp2_with fail
              refine (natAdd_calls _ _ (val (D.take i) * 10) d r1 1 _ (H1.out.below ((Below.refl _ _).alloc (Nat.le_refl _) _)) (hlit.out w1 d (by rw [B64_eq]; omega)) (by omega) (by omega)).mono ?_
              rintro e w2 ⟨A2, r2, rfl, h2, l2, hb⟩
              have ev : val (D.take i) * 10 + d = val (D.take (i + 1)) := by rw [hvtH.out, hddH.out]
              rw [ev] at h2 l2
              have H2 := Lib.hid h2
              have L2 := Lib.hid l2
              have hdig2 : Hid (∀ c ∈ D.take (i + 1), isDig c = true) := by
                intro x hx
                rw [List.take_succ_eq_append_getElem (by omega), List.mem_append] at hx
                rcases hx with hx | hx
                · exact hdig.out x hx
                · rw [List.mem_singleton, ← hbH.out] at hx
                  rw [hx]
                  simp [isDig, ← hbnH.out, hd1, hd2]
              have hr2 : r2 ≤ i + 1 := l2.le (Nat.lt_of_lt_of_le (val_lt (i + 1) _ (by rw [List.length_take]; omega) hdig2.out) (Nat.pow_le_pow_left (by decide) _))
              have B2 : Hid (Below W.heap.size W w2) := B1.out.trans ((((Below.refl _ w1).alloc (Nat.le_refl _) _).trans (hb.mono (by simp))).mono B1.out.size)
              clear h2 l2 hb ev B1 H1
              go_wp2_with fail
              go_roundw
              case rel => exact ⟨i + 1, r2, A2, by go_num, by simp; omega, rfl, by omega, H2, L2, hr2, hdig2, B2⟩
              case measure => simp [intOf]; try omega
            · have hng : Hid (¬ GoodText nb D) := by
                intro hg
                have := hg.1 b (by rw [hbH.out]; exact List.getElem_mem _)
                simp [isDig, ← hbnH.out] at this
                exact hd this
              obtain ⟨k0, k1, k2, k3⟩ := kept_cells hblk
              obtain ⟨q0, q1⟩ := kept_reads hblk (.bool false) (.slice none 0 0)
              have q0' : ((wr.setCell ⟨w.heap.size, 0, none⟩ (.bool false)).setCell ⟨w.heap.size, 1, none⟩ (.slice none 0 0)).cell? ⟨w.heap.size, 0, none⟩ = some (.bool false) := (World.cell?_setCell_other _ _ _ _ (by simp)).trans q0
              have hBE : Hid (Below w.heap.size w ((wr.setCell ⟨w.heap.size, 0, none⟩ (.bool false)).setCell ⟨w.heap.size, 1, none⟩ (.slice none 0 0))) := ((hBW.out.trans (hbel.out.mono (by omega))).setCell (Nat.le_refl _) _).setCell (Nat.le_refl _) _
              have hd2 : bn < 48 ∨ 48 ≤ bn ∧ 57 < bn := by omega
              clear hd hbel HN hblk
              rcases hd2 with hd | ⟨hd1, hd2⟩
              all_goals
                go_wp2_with fail
                try simp only [Exit.noGoto_ret]
                try go_big_unhide
                refine bodyPost_ret (v := .tuple #[.agg #[.bool false, .slice none 0 0], errN 4]) (by simp [results, Tryd.results24, go_sem, q0, q0', q1, errN]) rfl ?_
                show ParseEnd _ _ _ _ _
                rw [← hDD'.out]
                exact ⟨hBE.out, .inr ⟨hng.out, rfl⟩⟩
          · obtain rfl : i = t.length + 1 := by omega
            have hblk := (hbel.out.block w.heap.size (by omega)).trans hblkW.out
            rw [← hDt, List.take_length] at HN LN hdig
            have hgood : Hid (GoodText nb D) := ⟨hdig.out, hDne.out, hhead.out⟩
            obtain ⟨k0, k1, k2, k3⟩ := kept_cells hblk
            obtain ⟨q0, q1⟩ := kept_reads hblk (.bool nb) (.slice A r r)
            have q0' : ((wr.setCell ⟨w.heap.size, 0, none⟩ (.bool nb)).setCell ⟨w.heap.size, 1, none⟩ (.slice A r r)).cell? ⟨w.heap.size, 0, none⟩ = some (.bool nb) := (World.cell?_setCell_other _ _ _ _ (by simp)).trans q0
            have hBE : Hid (Below w.heap.size w ((wr.setCell ⟨w.heap.size, 0, none⟩ (.bool nb)).setCell ⟨w.heap.size, 1, none⟩ (.slice A r r))) := ((hBW.out.trans (hbel.out.mono (by omega))).setCell (Nat.le_refl _) _).setCell (Nat.le_refl _) _
            have HE : Hid (Num .u64 B64 ((wr.setCell ⟨w.heap.size, 0, none⟩ (.bool nb)).setCell ⟨w.heap.size, 1, none⟩ (.slice A r r)) (.slice A r r) (val D) r) := (HN.out.store hblk (NoInt.two _ _ _ _)).store (heap_setCell hblk _) ((NoInt.two _ _ _ _).set 0 (by simp))
            clear hbel HN hblk
            go_wp2_with fail
            simp only [Exit.noGoto_ret]
            go_big_unhide
            refine bodyPost_ret (v := .tuple #[.agg #[.bool nb, .slice A r r], .nilIface]) (by simp [results, Tryd.results24, go_sem, q0, q0', q1]) rfl ?_
            show ParseEnd _ _ _ _ _
            rw [← hDD'.out]
            exact ⟨hBE.out, .inl ⟨hgood.out, A, r, rfl, HE.out, LN.out⟩⟩
end Go.Proofs.YtmobnjlbbhhedaaDoor
