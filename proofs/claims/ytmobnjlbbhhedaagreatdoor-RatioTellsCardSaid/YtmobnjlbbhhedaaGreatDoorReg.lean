/- A law for a region that draws its order, whose operations only read, call or make memory: each one's value keeps what is known of it while memory grows, so one look at each operation serves every order. -/
import Derived.StillTail
import Derived.Below
import Derived.Deep.RegionHeld3
import Derived.Deep.Draws
set_option linter.unusedVariables false
set_option linter.unusedSimpArgs false
namespace Go.Proofs.YtmobnjlbbhhedaaGreatDoor
open Go.RowKit

/-- Memory has grown, and all that was there is as it was. -/
def Ext (w w' : World) : Prop := Below w.heap.size w w'
theorem Ext.refl (w : World) : Ext w w := Below.refl _ _
theorem Ext.drew (w : World) : Ext w w.drew := (Below.refl _ w).drew
theorem Ext.trans {a b c : World} (h : Ext a b) (k : Ext b c) : Ext a c := Below.trans h (Below.mono k h.size)
theorem Ext.alloc (w : World) (o : Obj) : Ext w (w.alloc o) := (Below.refl _ w).alloc (Nat.le_refl _) _
theorem Ext.drewN (w : World) (n : Nat) : Ext w (w.drewN n) := ⟨rfl, rfl, rfl, Nat.le_refl _, fun _ _ => rfl⟩

/-- What is known of a value goes on to hold while memory grows. -/
def Pers (R : Value → World → Prop) : Prop := ∀ v w w', R v w → Ext w w' → R v w'
def PersAll : List (Value → World → Prop) → Prop
  | [] => True
  | R :: Rs => Pers R ∧ PersAll Rs
theorem PersAll.get {Rs : List (Value → World → Prop)} (h : PersAll Rs) : ∀ {i : Nat} {R : Value → World → Prop}, Rs[i]? = some R → Pers R := by
  induction Rs with
  | nil => intro i R hi; simp at hi
  | cons R0 Rs ih =>
    intro i R hi
    cases i with
    | zero => simp at hi; subst hi; exact h.1
    | succ i => exact ih h.2 (by simpa using hi)
/-- The value is just this one. -/
def IsV (u : Value) : Value → World → Prop := fun v _ => v = u
theorem pers_isV (u : Value) : Pers (IsV u) := fun _ _ _ h _ => h
/-- Nothing is known. -/
def AnyV : Value → World → Prop := fun _ _ => True
theorem pers_any : Pers AnyV := fun _ _ _ _ _ => trivial
/-- A block that has been made since. -/
def NewB (base : Nat) (t : TypeId) (cs : Array Value) : Value → World → Prop := fun v w => ∃ g, v = .pointer (some ⟨g, 0, none⟩) ∧ base ≤ g ∧ w.heap[g]? = some (.cells cs t (0, 0))
theorem pers_new (base : Nat) (t : TypeId) (cs : Array Value) : Pers (NewB base t cs) := fun v w w' ⟨g, e, hg, hb⟩ h => by
  refine ⟨g, e, hg, (h.block g ?_).trans hb⟩
  exact (Array.getElem?_eq_some_iff.1 hb).1

/-- The values of the first operations are put where they belong. -/
def putAll (xs : Nat → Value) : Nat → List Oper → Act → Act
  | _, [], a => a
  | k, o :: os, a => putAll xs (k + 1) os (a.put o.dst (xs k))
/-- What is known of the operations that one waits for. -/
def factsOf (Rs : List (Value → World → Prop)) (xs : Nat → Value) (w : World) : List Edge → Prop
  | [] => True
  | e :: es => (Region.binds .any e = true → match Rs[e.on]? with | some R => R (xs e.on) w | none => True) ∧ factsOf Rs xs w es
/-- What is known of them all. -/
def factsAll (xs : Nat → Value) (w : World) : Nat → List (Value → World → Prop) → Prop
  | _, [] => True
  | k, R :: Rs => R (xs k) w ∧ factsAll xs w (k + 1) Rs
/-- Nothing but a return. -/
def NoWay : Exit → Act → World → Prop := fun _ _ _ => False
/-- What is asked of one operation. -/
def OpGoal (P : Program) (ops : Array Oper) (o : Oper) (R : Value → World → Prop) (a : Act) (w : World) : Prop :=
  ∀ K : Act → World → Prop, Shut (∀ a' w' v, a' = a.put o.dst v → R v w' → Ext w w' → K a' w') →
    if Region.wanted o (yielded ops a.tmps) = true then o.wp P a w K NoWay else K (a.put o.dst undef) w
/-- What is asked of all. -/
def Obl (P : Program) (ops : Array Oper) (front : List Oper) (RS : List (Value → World → Prop)) (a0 : Act) (w0 : World) : List Oper → List (Value → World → Prop) → Prop
  | o :: os, R :: Rs => (∀ (xs : Nat → Value) (w : World), Ext w0 w → factsOf RS xs w o.after.toList → OpGoal P ops o R (putAll xs 0 front a0) w) ∧ Obl P ops front RS a0 w0 os Rs
  | _, _ => True

theorem putAll_put {xs : Nat → Value} : ∀ {os : List Oper} {k : Nat} {a : Act} {d : Option Tmp} {v : Value}, (∀ o ∈ os, ∀ t, d = some t → o.dst ≠ some t) → (putAll xs k os a).put d v = putAll xs k os (a.put d v)
  | [], _, _, _, _, _ => rfl
  | o :: os, k, a, d, v, h => by
    show (putAll xs (k + 1) os (a.put o.dst (xs k))).put d v = putAll xs (k + 1) os ((a.put d v).put o.dst (xs k))
    rw [putAll_put (fun o' ho' => h o' (List.mem_cons_of_mem _ ho'))]
    congr 1
    cases d with
    | none => rfl
    | some t =>
      refine Act.put_comm a (xs k) v fun t' ht' => ?_
      intro e
      cases e
      exact h o (List.mem_cons_self ..) t rfl ht'
theorem put_put (a : Act) (d : Option Tmp) (u v : Value) : (a.put d u).put d v = a.put d v := by
  cases d with
  | none => rfl
  | some t =>
    simp only [Act.put]
    congr 1
    apply Array.ext_getElem?
    intro i
    simp only [Array.getElem?_setIfInBounds, Array.size_setIfInBounds]
    by_cases h : t = i <;> simp [h]
theorem putAll_congr {xs ys : Nat → Value} : ∀ {os : List Oper} {k : Nat} {a : Act}, (∀ i, k ≤ i → i < k + os.length → xs i = ys i) → putAll xs k os a = putAll ys k os a
  | [], _, _, _ => rfl
  | o :: os, k, a, h => by
    show putAll xs (k + 1) os (a.put o.dst (xs k)) = putAll ys (k + 1) os (a.put o.dst (ys k))
    rw [h k (Nat.le_refl _) (by simp), putAll_congr (fun i h1 h2 => h i (by omega) (by simp; omega))]
/-- Each operation has a place of its own. -/
def apartB : List Oper → Bool
  | [] => true
  | o :: os => (os.all fun o' => match o.dst, o'.dst with | some d, some d' => d != d' | _, _ => true) && apartB os
theorem apartB_cons {o : Oper} {os : List Oper} (h : apartB (o :: os) = true) : (∀ o' ∈ os, ∀ t, o.dst = some t → o'.dst ≠ some t) ∧ apartB os = true := by
  simp only [apartB, Bool.and_eq_true, List.all_eq_true] at h
  refine ⟨fun o' ho' t ht hk => ?_, h.2⟩
  have := h.1 o' ho'
  rw [ht, hk] at this
  simp at this
/-- The state before anything came up is one of these. -/
theorem putAll_self : ∀ (os : List Oper) (k : Nat) (a : Act), apartB os = true → ∃ xs, a = putAll xs k os a
  | [], _, _, _ => ⟨fun _ => undef, rfl⟩
  | o :: os, k, a, h => by
    obtain ⟨h1, h2⟩ := apartB_cons h
    obtain ⟨v, hv⟩ : ∃ v, a.put o.dst v = a := by
      cases hd : o.dst with
      | none => exact ⟨undef, rfl⟩
      | some t =>
        refine ⟨a.tmps.getD t undef, ?_⟩
        simp only [Act.put]
        have : a.tmps.setIfInBounds t (a.tmps.getD t undef) = a.tmps := by
          apply Array.ext_getElem?
          intro i
          rw [Array.getElem?_setIfInBounds]
          by_cases hti : t = i
          · subst hti
            by_cases hs : t < a.tmps.size <;> simp [hs]
          · simp [hti]
        rw [this]
    obtain ⟨xs, hx⟩ := putAll_self os (k + 1) a h2
    refine ⟨fun i => if i = k then v else xs i, ?_⟩
    show a = putAll _ (k + 1) os (a.put o.dst (if k = k then v else xs k))
    rw [if_pos rfl, hv]
    rw [putAll_congr (ys := xs) (fun i hi _ => by rw [if_neg (by omega)])]
    exact hx
/-- A new value of one of them. -/
theorem putAll_set {xs : Nat → Value} : ∀ {os : List Oper} {k i : Nat} {o : Oper} {a : Act} {v : Value}, apartB os = true → os[i]? = some o →
    (putAll xs k os a).put o.dst v = putAll (fun j => if j = k + i then v else xs j) k os a
  | [], _, _, _, _, _, _, h => by simp at h
  | o0 :: os, k, 0, o, a, v, hB, h => by
    simp at h; subst h
    obtain ⟨h1, h2⟩ := apartB_cons hB
    show (putAll xs (k + 1) os (a.put o0.dst (xs k))).put o0.dst v = putAll _ (k + 1) os (a.put o0.dst (if k = k + 0 then v else xs k))
    rw [putAll_put h1, put_put, if_pos (by omega)]
    exact putAll_congr fun i h1 h2 => by rw [if_neg (by omega)]
  | o0 :: os, k, i + 1, o, a, v, hB, h => by
    obtain ⟨h1, h2⟩ := apartB_cons hB
    show (putAll xs (k + 1) os (a.put o0.dst (xs k))).put o.dst v = putAll _ (k + 1) os (a.put o0.dst (if k = k + (i + 1) then v else xs k))
    rw [if_neg (by omega), putAll_set h2 (by simpa using h)]
    exact putAll_congr fun j h1 h2 => by
      by_cases hj : j = k + 1 + i
      · rw [if_pos hj, if_pos (by omega)]
      · rw [if_neg hj, if_neg (by omega)]

theorem Obl.get {P : Program} {ops : Array Oper} {front : List Oper} {RS : List (Value → World → Prop)} {a0 : Act} {w0 : World} : ∀ {os : List Oper} {Rs : List (Value → World → Prop)} {i : Nat} {o : Oper} {R : Value → World → Prop},
    Obl P ops front RS a0 w0 os Rs → os[i]? = some o → Rs[i]? = some R → ∀ (xs : Nat → Value) (w : World), Ext w0 w → factsOf RS xs w o.after.toList → OpGoal P ops o R (putAll xs 0 front a0) w
  | [], _, _, _, _, _, h, _ => by simp at h
  | _ :: _, [], _, _, _, _, _, h => by simp at h
  | o0 :: os, R0 :: Rs, 0, o, R, H, h, k => by
    simp at h k; subst h k; exact H.1
  | o0 :: os, R0 :: Rs, i + 1, o, R, H, h, k => Obl.get (os := os) (Rs := Rs) H.2 (by simpa using h) (by simpa using k)
theorem factsOf_mk {Rs : List (Value → World → Prop)} {xs : Nat → Value} {w : World} : ∀ {es : List Edge}, (∀ e ∈ es, Region.binds .any e = true → ∀ R : Value → World → Prop, Rs[e.on]? = some R → R (xs e.on) w) → factsOf Rs xs w es
  | [], _ => trivial
  | e :: es, h => ⟨fun hb => by
      split
      · rename_i R hR; exact h e (List.mem_cons_self ..) hb R hR
      · trivial, factsOf_mk fun e' he' => h e' (List.mem_cons_of_mem _ he')⟩
theorem factsAll_mk {xs : Nat → Value} {w : World} : ∀ {Rs : List (Value → World → Prop)} {k : Nat}, (∀ (i : Nat) (R : Value → World → Prop), Rs[i]? = some R → R (xs (k + i)) w) → factsAll xs w k Rs
  | [], _, _ => trivial
  | R :: Rs, k, h => ⟨h 0 R (by simp), factsAll_mk fun i R' hR' => by
      have := h (i + 1) R' (by simpa using hR')
      rwa [show k + 1 + i = k + (i + 1) by omega]⟩

/-- The waits go backward, each first one is waited for, the last ones stand in a row. -/
def backB (ops : Array Oper) : Bool := (List.range ops.size).all fun i => match ops[i]? with | some o => o.after.all fun e => !Region.binds .any e || decide (e.on < i) | none => true
def givesB (l : List Oper) (n : Nat) : Bool :=
  decide (n < l.length) && Region.sinkB .any l.toArray n && Region.chainB .any l.toArray n && backB l.toArray && apartB (l.take n) &&
  Region.seqB .any l.toArray (l.length - n) n ((List.replicate n true ++ List.replicate (l.length - n) false).toArray)

/-- How many of the first n have not come up yet. -/
def open' (listed : Array Bool) (n : Nat) : Nat := ((List.range n).filter fun i => !listed.getD i false).length
theorem open_zero {listed : Array Bool} {n : Nat} (h : open' listed n = 0) : ∀ i, i < n → listed.getD i false = true := by
  intro i hi
  unfold open' at h
  rw [List.length_eq_zero_iff, List.filter_eq_nil_iff] at h
  have := h i (List.mem_range.2 hi)
  simpa using this
theorem filter_len {p q : Nat → Bool} {j : Nat} : ∀ (l : List Nat), l.Nodup → j ∈ l → p j = true → q j = false → (∀ i, i ≠ j → q i = p i) → (l.filter q).length + 1 = (l.filter p).length
  | [], _, h, _, _, _ => by simp at h
  | a :: l, hn, h, hp, hq, hi => by
    rw [List.nodup_cons] at hn
    by_cases ha : a = j
    · subst ha
      have e : l.filter q = l.filter p := List.filter_congr fun x hx => by
        by_cases hxa : x = a
        · subst hxa; exact absurd hx hn.1
        · exact hi x hxa
      rw [List.filter_cons_of_neg (by simp [hq]), List.filter_cons_of_pos hp, e]
      simp
    · have hj : j ∈ l := by
        rcases List.mem_cons.1 h with h | h
        · exact absurd h.symm ha
        · exact h
      have ih := filter_len l hn.2 hj hp hq hi
      by_cases hpa : p a = true
      · rw [List.filter_cons_of_pos hpa, List.filter_cons_of_pos (by rw [hi a ha]; exact hpa)]
        simp only [List.length_cons]
        omega
      · rw [List.filter_cons_of_neg hpa, List.filter_cons_of_neg (by rw [hi a ha]; exact hpa)]
        exact ih
theorem open_set {listed : Array Bool} {n j : Nat} (hj : j < n) (hs : j < listed.size) (hf : listed.getD j false = false) : open' (listed.setIfInBounds j true) n + 1 = open' listed n := by
  unfold open'
  refine filter_len (j := j) (List.range n) List.nodup_range (List.mem_range.2 hj) (by simp [hf]) ?_ ?_
  · simp [hs]
  · intro i hi
    rw [getD_set_ne false (Ne.symm hi)]
theorem wp_weaken {P : Program} {o : Oper} {a : Act} {w : World} {K K' : Act → World → Prop} {Q : Exit → Act → World → Prop} (h : ∀ a w, K a w → K' a w) (hh : o.wp P a w K NoWay) : o.wp P a w K' Q := by
  unfold Oper.wp at *
  generalize (execOp a.eval o).run P w = r at *
  cases r with
  | ok n w' =>
    cases n <;> simp only [Oper.upon] at hh ⊢ <;> first
      | exact h _ _ hh
      | exact Rows.mono hh fun _ _ he => h _ _ he
      | (refine Calls.mono hh fun e w'' he => ?_
         cases e with
         | returned v => exact h _ _ he
         | panicked c => exact (he : False).elim
         | outgrown => obtain ⟨_, _, hf⟩ := (he : LetsOut NoWay); exact (hf : False).elim)
  | halt x w' => cases x <;> simp only [Oper.upon] at hh ⊢ <;> exact (hh : False).elim

theorem first_open {listed : Array Bool} {n : Nat} (h : 0 < open' listed n) : ∃ i, i < n ∧ listed.getD i false = false ∧ ∀ k, k < i → listed.getD k false = true := by
  have hex : ∃ i, i < n ∧ listed.getD i false = false := by
    obtain ⟨i, hi⟩ := List.exists_mem_of_length_pos h
    rw [List.mem_filter, List.mem_range] at hi
    exact ⟨i, hi.1, by simpa using hi.2⟩
  have : ∀ m, (∃ i, i < m ∧ i < n ∧ listed.getD i false = false) → ∃ i, i < n ∧ listed.getD i false = false ∧ ∀ k, k < i → listed.getD k false = true := by
    intro m
    induction m with
    | zero => rintro ⟨i, hi, _⟩; omega
    | succ m ih =>
      rintro ⟨i, hi, hin, hf⟩
      by_cases c : ∃ i, i < m ∧ i < n ∧ listed.getD i false = false
      · exact ih c
      · refine ⟨i, hin, hf, fun k hk => ?_⟩
        cases hb : listed.getD k false with
        | true => rfl
        | false => exact absurd ⟨k, by omega, by omega, hb⟩ c
  obtain ⟨i, h1, h2⟩ := hex
  exact this n ⟨i, h1, h1, h2⟩

section
variable {P : Program} {Q : Exit → Act → World → Prop} {l : List Oper} {n : Nat} {Rs : List (Value → World → Prop)} {a0 : Act} {w0 : World}
theorem gives_any (hn : n < l.length) (hs : Region.sinkB .any l.toArray n = true) (hc : Region.chainB .any l.toArray n = true) (hk : backB l.toArray = true) (hap : apartB (l.take n) = true)
    (hq : Region.seqB .any l.toArray (l.length - n) n ((List.replicate n true ++ List.replicate (l.length - n) false).toArray) = true)
    (hl : Rs.length = n) (hp : PersAll Rs) (h : Obl P l.toArray (l.take n) Rs a0 w0 (l.take n) Rs)
    (ht : ∀ xs w', Ext w0 w' → factsAll xs w' 0 Rs → wpList P l.toArray Q (l.drop n) (putAll xs 0 (l.take n) a0) w') :
    ∀ (f : Nat) (listed : Array Bool) (xs : Nat → Value) (w : World), open' listed n = f → HeadInv .any l.toArray n listed → Ext w0 w →
      (∀ i, i < n → listed.getD i false = true → ∀ R : Value → World → Prop, Rs[i]? = some R → R (xs i) w) → wpAny P .any l.toArray Q (f + (l.length - n)) listed (putAll xs 0 (l.take n) a0) w := by
  intro f
  induction f with
  | zero =>
    intro listed xs w hf inv he hR
    have e : listed = (List.replicate n true ++ List.replicate (l.length - n) false).toArray := by
      have hsz := inv.size
      simp only [List.size_toArray] at hsz
      apply Array.ext
      · simp [hsz]; omega
      · intro i h1 h2
        have ho := open_zero hf
        by_cases hi : i < n
        · have := ho i hi
          simp [h1] at this
          simp [hi, this, List.getElem_append]
        · have := inv.tail i (by omega) (by simpa [hsz] using h1)
          simp [h1] at this
          simp [hi, this, List.getElem_append]
    have hseq := wpAny_of_seq (md := .any) (Q' := Q) (P := P) (ops := l.toArray) (l.drop n) n listed (putAll xs 0 (l.take n) a0) w (fun j => by simp [List.getElem?_drop]) (by rw [e]; simpa using hq)
      (ht xs w he (factsAll_mk fun i R hi => by
        have hin : i < n := by
          have := (List.getElem?_eq_some_iff.1 hi).1
          omega
        simpa using hR i hin (open_zero hf i hin) R hi))
    simpa using hseq
  | succ f ih =>
    intro listed xs w hf inv he hR
    rw [show f + 1 + (l.length - n) = (f + (l.length - n)) + 1 by omega]
    obtain ⟨i, hin, hif, hilt⟩ := first_open (by omega : 0 < open' listed n)
    have hsz := inv.size
    simp only [List.size_toArray] at hsz
    have hiu : listed.getD i true = false := getD_in (by omega) hif
    have hri : i ∈ Region.ready .any l.toArray listed := by
      have hil : i < l.length := by omega
      refine mem_ready.2 ⟨hiu, l[i], by simp [hil], fun e hem hb => ?_⟩
      have h1 := List.all_eq_true.1 hk i (List.mem_range.2 (by simpa using hil))
      simp only [List.getElem?_toArray, List.getElem?_eq_getElem hil] at h1
      have h2 := Array.all_eq_true_iff_forall_mem.1 h1 e hem
      rw [hb] at h2
      simp at h2
      exact hilt _ h2
    refine ⟨fun h0 => (by rw [h0] at hri; cases hri), fun j hj => ?_⟩
    have hjn : j < n := by
      rcases Nat.lt_or_ge j n with h | h
      · exact h
      · exact absurd hj (tail_waits hs hc (by simpa using hn) inv _ i rfl hin hiu j h)
    obtain ⟨hju, o, hoj, hall⟩ := mem_ready.1 hj
    have hol : l[j]? = some o := by simpa using hoj
    have hot : (l.take n)[j]? = some o := by rw [List.getElem?_take, if_pos hjn]; exact hol
    obtain ⟨R, hRj⟩ : ∃ R, Rs[j]? = some R := ⟨Rs[j]'(by omega), List.getElem?_eq_getElem (by omega)⟩
    have hedge : ∀ e ∈ o.after, Region.binds .any e = true → e.on < n := fun e hem hb => by
      have hjl : j < l.length := by omega
      have h1 := List.all_eq_true.1 hk j (List.mem_range.2 (by simpa using hjl))
      simp only [hoj] at h1
      have h2 := Array.all_eq_true_iff_forall_mem.1 h1 e hem
      rw [hb] at h2
      simp at h2
      omega
    have G := Obl.get h hot hRj xs w he (factsOf_mk fun e hem hb R' hR' => hR e.on (hedge e (by simpa using hem) hb) (hall e (by simpa using hem) hb) R' hR')
    have H : Shut (∀ a' w' v, a' = (putAll xs 0 (l.take n) a0).put o.dst v → R v w' → Ext w w' → wpAny P .any l.toArray Q (f + (l.length - n)) (listed.setIfInBounds j true) a' w') := by
      show ∀ a' w' v, _ → _ → _ → _
      intro a' w' v ha hv hw'
      rw [ha, putAll_set hap hot]
      refine ih _ _ _ ?_ (inv.set hj hjn) (he.trans hw') ?_
      · have := open_set hjn (by omega) (getD_both hju)
        omega
      · intro k hkn hkl R' hR'
        by_cases hkj : k = j
        · subst hkj
          have : R' = R := by rw [hRj] at hR'; cases hR'; rfl
          subst this
          simpa using hv
        · rw [if_neg (by omega)]
          rw [getD_set_ne false (Ne.symm hkj)] at hkl
          exact hp.get hR' _ _ _ (hR k hkn hkl R' hR') hw'
    have G2 := G _ H
    unfold wpOp
    simp only [hoj]
    by_cases hw : Region.wanted o (yielded l.toArray (putAll xs 0 (l.take n) a0).tmps) = true
    · rw [if_pos hw] at G2 ⊢
      exact .inl (wp_weaken (fun _ _ h => h) G2)
    · rw [if_neg hw] at G2 ⊢
      exact G2
/-- One look at each operation serves every order. -/
theorem wp_region_gives {id : Nat} (n : Nat) (Rs : List (Value → World → Prop)) (hm : P.follows .mixedOrders = true) (hB : givesB l n = true)
    (hl : Rs.length = n) (hp : PersAll Rs) (h : Obl P l.toArray (l.take n) Rs a0 w0 (l.take n) Rs)
    (ht : ∀ xs w', Ext w0 w' → factsAll xs w' 0 Rs → wpList P l.toArray Q (l.drop n) (putAll xs 0 (l.take n) a0) w') : (Code.region id l.toArray true).wp P Q a0 w0 := by
  simp only [givesB, Bool.and_eq_true, decide_eq_true_eq] at hB
  obtain ⟨⟨⟨⟨⟨hn, hs⟩, hc⟩, hk⟩, hap⟩, hq⟩ := hB
  refine wp_region_any hm ?_
  obtain ⟨xs, hx⟩ := putAll_self (l.take n) 0 a0 hap
  have inv0 : HeadInv .any l.toArray n (Array.replicate l.toArray.size false) :=
    ⟨by simp, fun j oj _ hl => (by rw [getD_replicate_false] at hl; cases hl), fun t _ ht => getD_in (by simpa using ht) (getD_replicate_false _ _)⟩
  have := gives_any (Q := Q) hn hs hc hk hap hq hl hp h ht n (Array.replicate l.toArray.size false) xs { w0 with drawn := w0.drawn + 1 } (by
    unfold open'
    rw [List.filter_eq_self.2 (fun i _ => by rw [getD_replicate_false]; rfl)]
    simp) inv0 (Ext.drew w0) (fun i _ h => by rw [getD_replicate_false] at h; cases h)
  rw [← hx, show n + (l.length - n) = l.toArray.size by simp; omega] at this
  exact this
end

/-- The same, no operation being guarded: the region itself stands in no goal. -/
def OpGoal0 (P : Program) (o : Oper) (R : Value → World → Prop) (a : Act) (w : World) : Prop :=
  ∀ K : Act → World → Prop, Shut (∀ w' v, R v w' → Ext w w' → K (a.put o.dst v) w') → o.wp P a w K NoWay
def Obl0 (P : Program) (front : List Oper) (RS : List (Value → World → Prop)) (a0 : Act) (w0 : World) : List Oper → List (Value → World → Prop) → Prop
  | o :: os, R :: Rs => (∀ (xs : Nat → Value) (w : World), Ext w0 w → factsOf RS xs w o.after.toList → OpGoal0 P o R (putAll xs 0 front a0) w) ∧ Obl0 P front RS a0 w0 os Rs
  | _, _ => True
theorem Obl0.obl {P : Program} {ops : Array Oper} {front : List Oper} {RS : List (Value → World → Prop)} {a0 : Act} {w0 : World} : ∀ {os : List Oper} {Rs : List (Value → World → Prop)}, (os.all fun o => o.guard == none) = true →
    Obl0 P front RS a0 w0 os Rs → Obl P ops front RS a0 w0 os Rs
  | [], _, _, _ => trivial
  | _ :: _, [], _, _ => trivial
  | o :: os, R :: Rs, hg, h => by
    simp only [List.all_cons, Bool.and_eq_true, beq_iff_eq] at hg
    refine ⟨fun xs w he hf K hK => ?_, Obl0.obl hg.2 h.2⟩
    have hw : Region.wanted o (yielded ops (putAll xs 0 front a0).tmps) = true := by
      unfold Region.wanted
      rw [hg.1]
    rw [if_pos hw]
    exact h.1 xs w he hf K (show ∀ w' v, _ → _ → _ from fun w' v hv hw' => hK.out _ _ v rfl hv hw')
theorem wp_region_gives0 {P : Program} {Q : Exit → Act → World → Prop} {l : List Oper} {a0 : Act} {w0 : World} {id : Nat} (n : Nat) (Rs : List (Value → World → Prop)) (hm : P.follows .mixedOrders = true) (hB : (givesB l n && ((l.take n).all fun o => o.guard == none)) = true)
    (hl : Rs.length = n) (hp : PersAll Rs) (h : Obl0 P (l.take n) Rs a0 w0 (l.take n) Rs)
    (ht : ∀ xs w', Ext w0 w' → factsAll xs w' 0 Rs → wpList P l.toArray Q (l.drop n) (putAll xs 0 (l.take n) a0) w') : (Code.region id l.toArray true).wp P Q a0 w0 := by
  simp only [Bool.and_eq_true] at hB
  exact wp_region_gives n Rs hm hB.1 hl hp (Obl0.obl hB.2 h) ht
end Go.Proofs.YtmobnjlbbhhedaaGreatDoor
