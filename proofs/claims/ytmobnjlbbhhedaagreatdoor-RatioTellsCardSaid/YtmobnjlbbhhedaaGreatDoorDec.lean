/- The numeral of a number, in plain Lean: its last digits, what digits are worth, which texts are numerals. -/
import Derived.Lib.ItoaNum
import Derived.Lib.Repeat
set_option linter.unusedSimpArgs false
namespace Go.Proofs.YtmobnjlbbhhedaaGreatDoor
open Go.Lib

/-- The last n decimal digits. -/
def decs : Nat → Nat → List UInt8
  | 0, _ => []
  | n + 1, X => decs n (X / 10) ++ [UInt8.ofNat (48 + X % 10)]
theorem decs_length : ∀ n X, (decs n X).length = n
  | 0, _ => rfl
  | n + 1, X => by simp [decs, decs_length n]
theorem decs_one (X : Nat) : decs 1 X = [UInt8.ofNat (48 + X % 10)] := rfl
theorem decs_zero : ∀ n, decs n 0 = List.replicate n 48
  | 0 => rfl
  | n + 1 => by
    show decs n (0 / 10) ++ [UInt8.ofNat (48 + 0 % 10)] = _
    rw [Nat.zero_div, decs_zero n, List.replicate_succ']
    rfl
theorem decs_add : ∀ n m X, decs (n + m) X = decs n (X / 10 ^ m) ++ decs m X
  | n, 0, X => by simp [decs]
  | n, m + 1, X => by
    show decs (n + m) (X / 10) ++ [_] = _ ++ (decs m (X / 10) ++ [_])
    rw [decs_add n m (X / 10), List.append_assoc, Nat.div_div_eq_div_mul, Nat.pow_succ']
theorem decs_mod : ∀ n k X, n ≤ k → decs n (X % 10 ^ k) = decs n X
  | 0, _, _, _ => rfl
  | n + 1, 0, _, h => by omega
  | n + 1, k + 1, X, h => by
    have e1 : X % 10 ^ (k + 1) / 10 = X / 10 % 10 ^ k := by rw [Nat.pow_succ, Nat.mul_comm, Nat.mod_mul_right_div_self]
    have e2 : X % 10 ^ (k + 1) % 10 = X % 10 := by rw [Nat.pow_succ, Nat.mul_comm, Nat.mod_mul_right_mod]
    show decs n (X % 10 ^ (k + 1) / 10) ++ [UInt8.ofNat (48 + X % 10 ^ (k + 1) % 10)] = decs n (X / 10) ++ [UInt8.ofNat (48 + X % 10)]
    rw [e1, e2, decs_mod n k (X / 10) (by omega)]
theorem decDigits_split : ∀ m X, 0 < X / 10 ^ m → decDigits X = decDigits (X / 10 ^ m) ++ decs m X
  | 0, X, _ => by simp [decs]
  | m + 1, X, h => by
    have e : X / 10 ^ (m + 1) = X / 10 / 10 ^ m := by rw [Nat.div_div_eq_div_mul, Nat.pow_succ']
    rw [e] at h ⊢
    have h10 : ¬ X < 10 := by
      intro hlt
      rw [Nat.div_eq_of_lt hlt, Nat.zero_div] at h
      omega
    rw [decDigits, dif_neg h10, decDigits_split m (X / 10) h, List.append_assoc]
    rfl
/-- As many digits as it takes are the numeral. -/
theorem decs_all {X j : Nat} (h : X / 10 ^ (j + 1) = 0) (h2 : 0 < X / 10 ^ j) : decs (j + 1) X = decDigits X := by
  rw [decDigits_split j X h2, Nat.add_comm j 1, decs_add 1 j X]
  have e : X / 10 ^ (j + 1) = X / 10 ^ j / 10 := by rw [Nat.div_div_eq_div_mul, Nat.pow_succ]
  rw [e] at h
  have hlt : X / 10 ^ j < 10 := by omega
  rw [decDigits_one hlt, decs_one, Nat.mod_eq_of_lt hlt]
theorem pad_decs : ∀ n x, x < 10 ^ (n + 1) → List.replicate (n + 1 - (decDigits x).length) 48 ++ decDigits x = decs (n + 1) x
  | 0, x, h => by
    have h' : x < 10 := by simpa using h
    rw [decDigits_one h', decs_one, Nat.mod_eq_of_lt h']
    rfl
  | n + 1, x, h => by
    by_cases h10 : x < 10
    · rw [decDigits_one h10]
      show _ = decs (n + 1) (x / 10) ++ [UInt8.ofNat (48 + x % 10)]
      rw [Nat.div_eq_of_lt h10, decs_zero, Nat.mod_eq_of_lt h10]
      rfl
    · rw [decDigits, dif_neg h10]
      show _ = decs (n + 1) (x / 10) ++ [UInt8.ofNat (48 + x % 10)]
      rw [← pad_decs n (x / 10) (by rw [Nat.pow_succ] at h; omega), List.length_append, ← List.append_assoc]
      show List.replicate (n + 1 + 1 - ((decDigits (x / 10)).length + 1)) 48 ++ _ ++ _ = _
      rw [Nat.add_sub_add_right]

theorem len_of_lt {X k : Nat} (h : X < 10 ^ (k + 1)) : (decDigits X).length ≤ k + 1 := by
  have := congrArg List.length (pad_decs k X h)
  rw [decs_length] at this
  simp at this
  omega
/-- A digit. -/
def isDig (c : UInt8) : Bool := decide (48 ≤ c.toNat) && decide (c.toNat ≤ 57)
theorem isDig_of {d : Nat} (h : d < 10) : isDig (UInt8.ofNat (48 + d)) = true := by
  have : (UInt8.ofNat (48 + d)).toNat = 48 + d := by rw [UInt8.toNat_ofNat']; omega
  simp [isDig, this]; omega
/-- What digits are worth. -/
def val (l : List UInt8) : Nat := l.foldl (fun a c => a * 10 + (c.toNat - 48)) 0
theorem val_nil : val [] = 0 := rfl
theorem val_snoc (l : List UInt8) (c : UInt8) : val (l ++ [c]) = val l * 10 + (c.toNat - 48) := by
  unfold val
  rw [List.foldl_append]
  rfl
theorem snoc_of_len {α : Type} {l : List α} {n : Nat} (h : l.length = n + 1) : ∃ t c, l = t ++ [c] ∧ t.length = n := by
  refine ⟨l.dropLast, l.getLast (fun e => by rw [e] at h; simp at h), (List.dropLast_concat_getLast _).symm, by simp [h]⟩
theorem val_lt : ∀ (n : Nat) (l : List UInt8), l.length = n → (∀ c ∈ l, isDig c = true) → val l < 10 ^ n
  | 0, l, h, _ => by
    obtain rfl : l = [] := List.length_eq_zero_iff.1 h
    simp [val_nil]
  | n + 1, l, h, hd => by
    obtain ⟨t, c, rfl, ht⟩ := snoc_of_len h
    have h1 := val_lt n t ht (fun c hc => hd c (List.mem_append_left _ hc))
    have h2 := hd c (by simp)
    simp [isDig] at h2
    rw [val_snoc, Nat.pow_succ]
    omega
theorem decs_val : ∀ (n : Nat) (l : List UInt8), l.length = n → (∀ c ∈ l, isDig c = true) → decs n (val l) = l
  | 0, l, h, _ => by
    obtain rfl : l = [] := List.length_eq_zero_iff.1 h
    rfl
  | n + 1, l, h, hd => by
    obtain ⟨t, c, rfl, ht⟩ := snoc_of_len h
    have h2 := hd c (by simp)
    simp [isDig] at h2
    show decs n (val (t ++ [c]) / 10) ++ [UInt8.ofNat (48 + val (t ++ [c]) % 10)] = _
    have e1 : (val t * 10 + (c.toNat - 48)) / 10 = val t := by omega
    have e2 : 48 + (val t * 10 + (c.toNat - 48)) % 10 = c.toNat := by omega
    rw [val_snoc, e1, e2, decs_val n t ht (fun c hc => hd c (List.mem_append_left _ hc)), UInt8.ofNat_toNat]
theorem val_ge (c : UInt8) (hc : 49 ≤ c.toNat) : ∀ (n : Nat) (t : List UInt8), t.length = n → 10 ^ n ≤ val (c :: t)
  | 0, t, h => by
    obtain rfl : t = [] := List.length_eq_zero_iff.1 h
    show 1 ≤ 0 * 10 + (c.toNat - 48)
    omega
  | n + 1, t, h => by
    obtain ⟨u, d, rfl, hu⟩ := snoc_of_len h
    have h1 := val_ge c hc n u hu
    rw [← List.cons_append, val_snoc, Nat.pow_succ]
    omega
theorem decDigits_digits (X : Nat) : ∀ c ∈ decDigits X, isDig c = true := by
  induction X using Nat.strongRecOn with
  | _ X ih =>
    intro c hc
    by_cases h : X < 10
    · rw [decDigits_one h, List.mem_singleton] at hc
      rw [hc]; exact isDig_of h
    · rw [decDigits, dif_neg h, List.mem_append] at hc
      rcases hc with hc | hc
      · exact ih (X / 10) (by omega) c hc
      · rw [List.mem_singleton] at hc
        rw [hc]; exact isDig_of (Nat.mod_lt _ (by decide))
theorem val_decDigits (X : Nat) : val (decDigits X) = X := by
  induction X using Nat.strongRecOn with
  | _ X ih =>
    by_cases h : X < 10
    · rw [decDigits_one h, ← List.nil_append [UInt8.ofNat (48 + X)], val_snoc, val_nil, UInt8.toNat_ofNat']
      omega
    · have hm := Nat.mod_lt X (show 0 < 10 by decide)
      have e : (UInt8.ofNat (48 + X % 10)).toNat = 48 + X % 10 := by rw [UInt8.toNat_ofNat']; omega
      rw [decDigits, dif_neg h, val_snoc, ih (X / 10) (by omega), e]
      omega
theorem decDigits_ne (X : Nat) : decDigits X ≠ [] := by
  intro h
  have := decDigits_length X
  rw [h] at this
  have := nDigits_pos X
  simp at *
  omega
theorem decDigits_head (X : Nat) (h0 : 0 < X) : ∀ c t, decDigits X = c :: t → 49 ≤ c.toNat := by
  induction X using Nat.strongRecOn with
  | _ X ih =>
    intro c t e
    by_cases h : X < 10
    · rw [decDigits_one h] at e
      injection e with e1 e2
      rw [← e1, UInt8.toNat_ofNat']
      omega
    · rw [decDigits, dif_neg h] at e
      rcases hd : decDigits (X / 10) with _ | ⟨d, u⟩
      · exact absurd hd (decDigits_ne _)
      · rw [hd, List.cons_append] at e
        injection e with e1 e2
        rw [← e1]
        exact ih (X / 10) (by omega) (by omega) d u hd
/-- A sequence of digits is the numeral of what it is worth just if it is there, and begins with a nought only as "0". -/
theorem numeral_of {c : UInt8} {t : List UInt8} (hd : ∀ x ∈ c :: t, isDig x = true) (h : c.toNat ≠ 48 ∨ t = []) : decDigits (val (c :: t)) = c :: t := by
  have hc := hd c (by simp)
  simp [isDig] at hc
  by_cases h49 : 49 ≤ c.toNat
  · have h1 := val_ge c h49 t.length t rfl
    have h2 := val_lt (t.length + 1) (c :: t) rfl hd
    rw [← decs_all (j := t.length) (Nat.div_eq_of_lt h2) (Nat.div_pos h1 (Nat.pow_pos (by decide))), decs_val (t.length + 1) _ rfl hd]
  · rcases h with h | rfl
    · omega
    · have e : val [c] = c.toNat - 48 := by
        show 0 * 10 + (c.toNat - 48) = _
        omega
      have e2 : 48 + (c.toNat - 48) = c.toNat := by omega
      rw [e, decDigits_one (by omega), e2, UInt8.ofNat_toNat]
theorem not_numeral {c : UInt8} {t : List UInt8} (hc : c.toNat = 48) (ht : t ≠ []) : decDigits (val (c :: t)) ≠ c :: t := by
  intro e
  rcases Nat.eq_zero_or_pos (val (c :: t)) with h | h
  · rw [h, decDigits_one (by decide)] at e
    injection e with e1 e2
    exact ht e2.symm
  · have := decDigits_head _ h c t e
    omega

/-- A number, its sign told apart. -/
def sgn (neg : Bool) (X : Nat) : Int := if neg then -(X : Int) else (X : Int)
theorem itoa_sgn (neg : Bool) (X : Nat) : itoa (sgn neg X) = if neg && decide (0 < X) then 45 :: decDigits X else decDigits X := by
  unfold itoa sgn
  cases neg with
  | false => simp
  | true =>
    rcases Nat.eq_zero_or_pos X with h | h
    · subst h; simp
    · have e : -(X : Int) < 0 := by omega
      simp [h]
/-- A text of a number, its sign and its digits told. -/
def GoodText (neg : Bool) (D : List UInt8) : Prop := (∀ c ∈ D, isDig c = true) ∧ D ≠ [] ∧ (D.head? = some 48 → neg = false ∧ D = [48])
theorem GoodText.text {neg : Bool} {D : List UInt8} (h : GoodText neg D) : itoa (sgn neg (val D)) = (if neg then 45 :: D else D) ∧ (neg = true → 0 < val D) := by
  obtain ⟨h1, h2, h3⟩ := h
  cases D with
  | nil => exact absurd rfl h2
  | cons c t =>
    have hn : c.toNat ≠ 48 ∨ t = [] := by
      by_cases h : c = 48
      · right
        have := (h3 (by rw [h]; rfl)).2
        injection this
      · left
        intro e
        exact h (UInt8.toNat_inj.1 (by rw [e]; rfl))
    have e := numeral_of h1 hn
    have hp : neg = true → 0 < val (c :: t) := by
      rintro rfl
      have hc : c.toNat ≠ 48 := by
        intro e48
        have hh := h3 (by rw [UInt8.toNat_inj.1 (show c.toNat = (48 : UInt8).toNat by rw [e48]; rfl)]; rfl)
        cases hh.1
      have hc2 := h1 c (by simp)
      simp [isDig] at hc2
      exact Nat.lt_of_lt_of_le (Nat.pow_pos (by decide)) (val_ge c (by omega) t.length t rfl)
    refine ⟨?_, hp⟩
    rw [itoa_sgn, e]
    cases neg with
    | false => rfl
    | true => simp [hp rfl]
theorem not_good {neg : Bool} {D : List UInt8} (hd : ∀ c ∈ D, isDig c = true) (h : ¬ GoodText neg D) : itoa (sgn neg (val D)) ≠ (if neg then 45 :: D else D) := by
  intro e
  rw [itoa_sgn] at e
  cases neg with
  | false =>
    simp at e
    cases D with
    | nil => exact decDigits_ne _ e
    | cons c t =>
      refine h ⟨hd, by simp, fun hh => ⟨rfl, ?_⟩⟩
      have hc : c = 48 := by simpa using hh
      by_cases ht : t = []
      · rw [hc, ht]
      · exact absurd e (not_numeral (by rw [hc]; rfl) ht)
  | true =>
    rcases Nat.eq_zero_or_pos (val D) with h0 | h0
    · rw [h0, decDigits_one (by decide)] at e
      simp at e
    · simp [h0] at e
      cases D with
      | nil => exact decDigits_ne _ e
      | cons c t =>
        refine h ⟨hd, by simp, fun hh => ?_⟩
        have hc : c = 48 := by simpa using hh
        have := decDigits_head _ h0 c t e
        rw [hc] at this
        exact absurd this (by decide)
theorem good_decDigits (neg : Bool) (X : Nat) (h : neg = true → 0 < X) : GoodText neg (decDigits X) := by
  refine ⟨decDigits_digits X, decDigits_ne X, fun hh => ?_⟩
  rcases Nat.eq_zero_or_pos X with h0 | h0
  · subst h0
    refine ⟨?_, by rw [decDigits_one (by decide)]; rfl⟩
    cases neg
    · rfl
    · exact absurd (h rfl) (by decide)
  · rcases hd : decDigits X with _ | ⟨c, t⟩
    · exact absurd hd (decDigits_ne X)
    · rw [hd] at hh
      have hc : c = 48 := by simpa using hh
      have := decDigits_head X h0 c t hd
      rw [hc] at this
      exact absurd this (by decide)

/-- Whether a text begins with a minus, and what lies behind it. -/
def negOf (L : List UInt8) : Bool := decide (L.head? = some 45)
def bodyOf (L : List UInt8) : List UInt8 := if negOf L then L.tail else L
theorem of_neg_body (L : List UInt8) : (if negOf L then 45 :: bodyOf L else bodyOf L) = L := by
  unfold bodyOf negOf
  cases L with
  | nil => rfl
  | cons c t =>
    by_cases h : c = 45
    · simp [h]
    · simp [h]
/-- The text of a number, taken apart. -/
theorem itoa_apart (neg : Bool) (X : Nat) (h : neg = true → 0 < X) : negOf (itoa (sgn neg X)) = neg ∧ bodyOf (itoa (sgn neg X)) = decDigits X := by
  rw [itoa_sgn]
  cases neg with
  | true => simp [h rfl, negOf, bodyOf]
  | false =>
    have hn : negOf (decDigits X) = false := by
      rcases hd : decDigits X with _ | ⟨c, t⟩
      · rfl
      · have hc := decDigits_digits X c (by rw [hd]; simp)
        unfold negOf
        simp
        rintro rfl
        exact absurd hc (by decide)
    simp [bodyOf, hn]
end Go.Proofs.YtmobnjlbbhhedaaGreatDoor
