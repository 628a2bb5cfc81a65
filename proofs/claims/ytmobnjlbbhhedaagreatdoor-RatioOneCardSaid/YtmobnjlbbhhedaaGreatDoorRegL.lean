/- The law for regions that draw their order, with one operation that may come before or after the tail's first one (a store). -/
import Derived.Test.YtmobnjlbbhhedaaGreatDoorReg
set_option linter.unusedVariables false
set_option linter.unusedSimpArgs false
namespace Go.Proofs.YtmobnjlbbhhedaaGreatDoor
open Go.RowKit

def waitB (o : Oper) (i : Nat) : Bool := o.after.any fun e => Region.binds .any e && decide (e.on = i)
theorem waitB_spec {o : Oper} {i : Nat} (h : waitB o i = true) : ∃ e ∈ o.after, Region.binds .any e = true ∧ e.on = i := by
  unfold waitB at h
  obtain ⟨j, hj, he⟩ := Array.any_eq_true.1 h
  simp only [Bool.and_eq_true, decide_eq_true_eq] at he
  exact ⟨_, Array.getElem_mem hj, he.1, he.2⟩
def lateB (l : List Oper) (n m : Nat) : Bool :=
  decide (n < l.length) && decide (m < n) && backB l.toArray && apartB (l.take n) &&
  ((List.range l.length).all fun t => decide (t < n) || match l[t]? with
    | some o => ((List.range n).all fun i => decide (i = m) || waitB o i) && (decide (t = n) || waitB o m)
    | none => true) &&
  Region.seqB .any l.toArray (l.length - n) n ((List.replicate n true ++ List.replicate (l.length - n) false).toArray) &&
  Region.seqB .any l.toArray (l.length - (n + 1)) (n + 1) ((List.replicate (n + 1) true ++ List.replicate (l.length - (n + 1)) false).toArray)
theorem lateB_wait {l : List Oper} {n m t : Nat} {o : Oper} (h : ((List.range l.length).all fun t => decide (t < n) || match l[t]? with
    | some o => ((List.range n).all fun i => decide (i = m) || waitB o i) && (decide (t = n) || waitB o m)
    | none => true) = true) (ho : l[t]? = some o) (ht : n ≤ t) : (∀ i, i < n → i ≠ m → waitB o i = true) ∧ (t ≠ n → waitB o m = true) := by
  have hl : t < l.length := (List.getElem?_eq_some_iff.1 ho).1
  have h1 := List.all_eq_true.1 h t (List.mem_range.2 hl)
  simp only [ho, Bool.or_eq_true, Bool.and_eq_true, decide_eq_true_eq] at h1
  rcases h1 with h1 | ⟨h1, h2⟩
  · omega
  · refine ⟨fun i hi hm => ?_, fun hn => by rcases h2 with h2 | h2 <;> first | exact absurd h2 hn | exact h2⟩
    have := List.all_eq_true.1 h1 i (List.mem_range.2 hi)
    simp only [Bool.or_eq_true, decide_eq_true_eq] at this
    rcases this with h3 | h3
    · exact absurd h3 hm
    · exact h3
theorem listed_all {l : List Oper} {n : Nat} {listed : Array Bool} (hsz : listed.size = l.length) (hn : n ≤ l.length) (ha : ∀ i, i < n → listed.getD i false = true) (hb : ∀ t, n ≤ t → t < l.length → listed.getD t true = false) :
    listed = (List.replicate n true ++ List.replicate (l.length - n) false).toArray := by
  apply Array.ext
  · simp [hsz]; omega
  · intro i h1 h2
    by_cases hi : i < n
    · have := ha i hi
      simp [h1] at this
      simp [hi, this, List.getElem_append]
    · have := hb i (by omega) (by omega)
      simp [h1] at this
      simp [hi, this, List.getElem_append]

section
variable {P : Program} {Q : Exit → Act → World → Prop} {l : List Oper} {n m : Nat} {om on' : Oper} {Rs : List (Value → World → Prop)} {a0 : Act} {w0 : World}
theorem late_any (hn : n < l.length) (hmn : m < n) (hk : backB l.toArray = true) (hap : apartB (l.take n) = true)
    (hW : ((List.range l.length).all fun t => decide (t < n) || match l[t]? with
      | some o => ((List.range n).all fun i => decide (i = m) || waitB o i) && (decide (t = n) || waitB o m)
      | none => true) = true)
    (hq : Region.seqB .any l.toArray (l.length - n) n ((List.replicate n true ++ List.replicate (l.length - n) false).toArray) = true)
    (hq2 : Region.seqB .any l.toArray (l.length - (n + 1)) (n + 1) ((List.replicate (n + 1) true ++ List.replicate (l.length - (n + 1)) false).toArray) = true)
    (hom : l[m]? = some om) (hon : l[n]? = some on')
    (hl : Rs.length = n) (hp : PersAll Rs) (h : Obl P l.toArray (l.take n) Rs a0 w0 (l.take n) Rs)
    (ht : ∀ xs w', Ext w0 w' → factsAll xs w' 0 Rs → wpList P l.toArray Q (l.drop n) (putAll xs 0 (l.take n) a0) w')
    (ht2 : ∀ xs w', Ext w0 w' → factsAll xs w' 0 (Rs.set m AnyV) → wpList P l.toArray Q (on' :: om :: l.drop (n + 1)) (putAll xs 0 (l.take n) a0) w') :
    ∀ (f : Nat) (listed : Array Bool) (xs : Nat → Value) (w : World), open' listed n = f → HeadInv .any l.toArray n listed → Ext w0 w →
      (∀ i, i < n → listed.getD i false = true → ∀ R : Value → World → Prop, Rs[i]? = some R → R (xs i) w) → wpAny P .any l.toArray Q (f + (l.length - n)) listed (putAll xs 0 (l.take n) a0) w := by
  intro f
  induction f with
  | zero =>
    intro listed xs w hf inv he hR
    have hsz := inv.size
    simp only [List.size_toArray] at hsz
    have e := listed_all hsz (by omega) (open_zero hf) (fun t h1 h2 => inv.tail t h1 (by simpa using h2))
    have hseq := wpAny_of_seq (md := .any) (Q' := Q) (P := P) (ops := l.toArray) (l.drop n) n listed (putAll xs 0 (l.take n) a0) w (fun j => by simp [List.getElem?_drop]) (by rw [e]; simpa using hq)
      (ht xs w he (factsAll_mk fun i R hi => by
        have hin : i < n := by
          have := (List.getElem?_eq_some_iff.1 hi).1
          omega
        simpa using hR i hin (open_zero hf i hin) R hi))
    simpa using hseq
  | succ f ih =>
    intro listed xs w hf inv he hR
    rw [show f + 1 + (l.length - n) = (f + (l.length - n)) + 1 by omega]
    obtain ⟨i, hin, hif, hilt⟩ := first_open (by omega : 0 < open' listed n)
    have hsz := inv.size
    simp only [List.size_toArray] at hsz
    have hiu : listed.getD i true = false := getD_in (by omega) hif
    have back : ∀ (i : Nat) (hil : i < l.length), ∀ e ∈ l[i].after, Region.binds .any e = true → e.on < i := fun i hil e hem hb => by
      have h1 := List.all_eq_true.1 hk i (List.mem_range.2 (by simpa using hil))
      simp only [List.getElem?_toArray, List.getElem?_eq_getElem hil] at h1
      have h2 := Array.all_eq_true_iff_forall_mem.1 h1 e hem
      rw [hb] at h2
      simpa using h2
    have hri : i ∈ Region.ready .any l.toArray listed := by
      have hil : i < l.length := by omega
      exact mem_ready.2 ⟨hiu, l[i], by simp [hil], fun e hem hb => hilt _ (back i hil e hem hb)⟩
    refine ⟨fun h0 => (by rw [h0] at hri; cases hri), fun j hj => ?_⟩
    rcases Nat.lt_or_ge j n with hjn | hjn
    · obtain ⟨hju, o, hoj, hall⟩ := mem_ready.1 hj
      have hol : l[j]? = some o := by simpa using hoj
      have hot : (l.take n)[j]? = some o := by rw [List.getElem?_take, if_pos hjn]; exact hol
      obtain ⟨R, hRj⟩ : ∃ R, Rs[j]? = some R := ⟨Rs[j]'(by omega), List.getElem?_eq_getElem (by omega)⟩
      have hedge : ∀ e ∈ o.after, Region.binds .any e = true → e.on < n := fun e hem hb => by
        have hjl : j < l.length := by omega
        have h1 := List.all_eq_true.1 hk j (List.mem_range.2 (by simpa using hjl))
        simp only [hoj] at h1
        have h2 := Array.all_eq_true_iff_forall_mem.1 h1 e hem
        rw [hb] at h2
        simp at h2
        omega
      have G := Obl.get h hot hRj xs w he (factsOf_mk fun e hem hb R' hR' => hR e.on (hedge e (by simpa using hem) hb) (hall e (by simpa using hem) hb) R' hR')
      have H : Shut (∀ a' w' v, a' = (putAll xs 0 (l.take n) a0).put o.dst v → R v w' → Ext w w' → wpAny P .any l.toArray Q (f + (l.length - n)) (listed.setIfInBounds j true) a' w') := by
        show ∀ a' w' v, _ → _ → _ → _
        intro a' w' v ha hv hw'
        rw [ha, putAll_set hap hot]
        refine ih _ _ _ ?_ (inv.set hj hjn) (he.trans hw') ?_
        · have := open_set hjn (by omega) (getD_both hju)
          omega
        · intro k hkn hkl R' hR'
          by_cases hkj : k = j
          · subst hkj
            have : R' = R := by rw [hRj] at hR'; cases hR'; rfl
            subst this
            simpa using hv
          · rw [if_neg (by omega)]
            rw [getD_set_ne false (Ne.symm hkj)] at hkl
            exact hp.get hR' _ _ _ (hR k hkn hkl R' hR') hw'
      have G2 := G _ H
      unfold wpOp
      simp only [hoj]
      by_cases hw : Region.wanted o (yielded l.toArray (putAll xs 0 (l.take n) a0).tmps) = true
      · rw [if_pos hw] at G2 ⊢
        exact .inl (wp_weaken (fun _ _ h => h) G2)
      · rw [if_neg hw] at G2 ⊢
        exact G2
    · obtain ⟨hju, o, hoj, hall⟩ := mem_ready.1 hj
      have hol : l[j]? = some o := by simpa using hoj
      have hw := lateB_wait hW hol hjn
      have hlis : ∀ k, k < n → k ≠ m → listed.getD k false = true := fun k hk1 hk2 => by
        obtain ⟨e, hem, hb, hon2⟩ := waitB_spec (hw.1 k hk1 hk2)
        have := hall e hem hb
        rwa [hon2] at this
      have him : i = m := by
        by_cases c : i = m
        · exact c
        · rw [hlis i hin c] at hif; cases hif
      subst him
      have hjn' : j = n := by
        by_cases c : j = n
        · exact c
        · obtain ⟨e, hem, hb, hon2⟩ := waitB_spec (hw.2 c)
          have := hall e hem hb
          rw [hon2, hif] at this
          cases this
      subst hjn'
      have hoo : o = on' := by rw [hon] at hol; cases hol; rfl
      subst hoo
      have hf0 : f = 0 := by
        have h1 := open_set hin (by omega) hif
        have h2 : open' (listed.setIfInBounds i true) j = 0 := by
          unfold open'
          rw [List.length_eq_zero_iff, List.filter_eq_nil_iff]
          intro k hk1
          have hk1 := List.mem_range.1 hk1
          by_cases c : k = i
          · subst c
            have : k < listed.size := by omega
            simp [this]
          · rw [getD_set_ne false (Ne.symm c), hlis k hk1 c]
            simp
        omega
      subst hf0
      have H := ht2 xs w he (factsAll_mk fun k R hk1 => by
        have hkn : k < j := by
          have := (List.getElem?_eq_some_iff.1 hk1).1
          simp at this
          omega
        rw [Nat.zero_add]
        by_cases c : k = i
        · subst c
          rw [List.getElem?_set_self (by omega)] at hk1
          cases hk1
          trivial
        · rw [List.getElem?_set_ne (Ne.symm c)] at hk1
          exact hR k hkn (hlis k hkn c) R hk1)
      have hw1 : wpOp P l.toArray Q j (wpList P l.toArray Q (om :: l.drop (j + 1))) (putAll xs 0 (l.take j) a0) w := by
        unfold wpOp; simp only [hoj]; exact H
      refine wpOp_mono (fun a' w' h' => ?_) hw1
      rw [show 0 + (l.length - j) = (l.length - (j + 1)) + 1 by omega]
      have hjs : j < listed.size := by omega
      have hi1 : (listed.setIfInBounds j true).getD i true = false := by rw [getD_set_ne true (by omega)]; exact hiu
      have hil : i < l.length := by omega
      have hom' : l[i] = om := by rw [List.getElem?_eq_getElem hil] at hom; cases hom; rfl
      have hri2 : i ∈ Region.ready .any l.toArray (listed.setIfInBounds j true) :=
        mem_ready.2 ⟨hi1, l[i], by simp [hil], fun e hem hb => by
          have := back i hil e hem hb
          rw [getD_set_ne false (by omega)]
          exact hilt _ this⟩
      refine ⟨fun h0 => (by rw [h0] at hri2; cases hri2), fun k hk1 => ?_⟩
      obtain ⟨hku, ok, hok, hkall⟩ := mem_ready.1 hk1
      have hki : k = i := by
        by_cases c : k = i
        · exact c
        · rcases Nat.lt_trichotomy k j with c1 | c1 | c1
          · rw [getD_set_ne true (by omega)] at hku
            have := hlis k c1 c
            rw [getD_both hku] at this
            cases this
          · subst c1
            simp [hjs] at hku
          · obtain ⟨e, hem, hb, hon2⟩ := waitB_spec ((lateB_wait hW (by simpa using hok) (by omega)).2 (by omega))
            have := hkall e hem hb
            rw [hon2, getD_both hi1] at this
            cases this
      subst hki
      have hokm : ok = om := by
        have : l[k]? = some ok := by simpa using hok
        rw [hom] at this; cases this; rfl
      subst hokm
      have hw2 : wpOp P l.toArray Q k (wpList P l.toArray Q (l.drop (j + 1))) a' w' := by
        unfold wpOp; simp only [hok]; exact h'
      refine wpOp_mono (fun a2 w2 h2 => ?_) hw2
      have e := listed_all (l := l) (n := j + 1) (listed := (listed.setIfInBounds j true).setIfInBounds k true) (by simp [hsz]) (by omega) (fun t h1 => by
          by_cases c : t = k
          · subst c
            have : t < listed.size := by omega
            simp [this]
          · rw [getD_set_ne false (Ne.symm c)]
            by_cases c2 : t = j
            · subst c2; simp [hjs]
            · rw [getD_set_ne false (Ne.symm c2)]
              exact hlis t (by omega) c) (fun t h1 h2 => by
          rw [getD_set_ne true (by omega), getD_set_ne true (by omega)]
          exact inv.tail t (by omega) (by simpa using h2))
      have hseq := wpAny_of_seq (md := .any) (Q' := Q) (P := P) (ops := l.toArray) (l.drop (j + 1)) (j + 1) ((listed.setIfInBounds j true).setIfInBounds k true) a2 w2 (fun j => by simp [List.getElem?_drop]) (by rw [e]; simpa using hq2) h2
      simpa using hseq
theorem wp_region_late {id : Nat} (n m : Nat) (om on' : Oper) (Rs : List (Value → World → Prop)) (hm : P.follows .mixedOrders = true) (hB : lateB l n m = true) (hom : l[m]? = some om) (hon : l[n]? = some on')
    (hl : Rs.length = n) (hp : PersAll Rs) (h : Obl P l.toArray (l.take n) Rs a0 w0 (l.take n) Rs)
    (ht : ∀ xs w', Ext w0 w' → factsAll xs w' 0 Rs → wpList P l.toArray Q (l.drop n) (putAll xs 0 (l.take n) a0) w')
    (ht2 : ∀ xs w', Ext w0 w' → factsAll xs w' 0 (Rs.set m AnyV) → wpList P l.toArray Q (on' :: om :: l.drop (n + 1)) (putAll xs 0 (l.take n) a0) w') : (Code.region id l.toArray true).wp P Q a0 w0 := by
  simp only [lateB, Bool.and_eq_true, decide_eq_true_eq] at hB
  obtain ⟨⟨⟨⟨⟨⟨hn, hmn⟩, hk⟩, hap⟩, hW⟩, hq⟩, hq2⟩ := hB
  refine wp_region_any hm ?_
  obtain ⟨xs, hx⟩ := putAll_self (l.take n) 0 a0 hap
  have inv0 : HeadInv .any l.toArray n (Array.replicate l.toArray.size false) :=
    ⟨by simp, fun j oj _ hl => (by rw [getD_replicate_false] at hl; cases hl), fun t _ ht => getD_in (by simpa using ht) (getD_replicate_false _ _)⟩
  have := late_any (Q := Q) hn hmn hk hap hW hq hq2 hom hon hl hp h ht ht2 n (Array.replicate l.toArray.size false) xs { w0 with drawn := w0.drawn + 1 } (by
    unfold open'
    rw [List.filter_eq_self.2 (fun i _ => by rw [getD_replicate_false]; rfl)]
    simp) inv0 (Ext.drew w0) (fun i _ h => by rw [getD_replicate_false] at h; cases h)
  rw [← hx, show n + (l.length - n) = l.toArray.size by simp; omega] at this
  exact this
theorem wp_region_late0 {id : Nat} (n m : Nat) (Rs : List (Value → World → Prop)) {om on' : Oper} (hm : P.follows .mixedOrders = true) (hB : (lateB l n m && ((l.take n).all fun o => o.guard == none)) = true) (hom : l[m]? = some om) (hon : l[n]? = some on')
    (hl : Rs.length = n) (hp : PersAll Rs) (h : Obl0 P (l.take n) Rs a0 w0 (l.take n) Rs)
    (ht : ∀ xs w', Ext w0 w' → factsAll xs w' 0 Rs → wpList P l.toArray Q (l.drop n) (putAll xs 0 (l.take n) a0) w')
    (ht2 : ∀ xs w', Ext w0 w' → factsAll xs w' 0 (Rs.set m AnyV) → wpList P l.toArray Q (on' :: om :: l.drop (n + 1)) (putAll xs 0 (l.take n) a0) w') : (Code.region id l.toArray true).wp P Q a0 w0 := by
  simp only [Bool.and_eq_true] at hB
  exact wp_region_late n m om on' Rs hm hB.1 hom hon hl hp (Obl0.obl hB.2 h) ht ht2
end
end Go.Proofs.YtmobnjlbbhhedaaGreatDoor
