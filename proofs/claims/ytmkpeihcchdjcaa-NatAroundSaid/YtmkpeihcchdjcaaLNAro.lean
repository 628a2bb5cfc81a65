/- The walk of the statement NatAround. -/
import Derived.Test.YtmkpeihcchdjcaaAwk1
import Derived.Test.YtmkpeihcchdjcaaNatC
import Derived.Test.YtmkpeihcchdjcaaRefA
set_option linter.unusedVariables false
set_option linter.unusedSimpArgs false
namespace Go.Proofs.Ytmkpeihcchdjcaa
open Go.RowKit

theorem num_one0_lit (w : World) : Num .u64 B64 (w.alloc (.cells #[.int .u64 1, .int .u64 0] 22)) (.slice (some ⟨w.heap.size, 0, none⟩) 2 2) 1 2 :=
  Num.one0 (by decide) (by decide) (by rw [World.cell?_alloc_at _ _ _ _ rfl]; rfl) (by rw [World.cell?_alloc_at _ _ _ _ rfl]; rfl)
theorem isLen_one : IsLen B64 1 1 := ⟨by decide, fun m hm => by
  rcases m with _ | m
  · simp at hm
  · omega⟩
theorem below_next {w w1 w2 : World} (h : Below w.heap.size w w1) (k : Below w1.heap.size w1 w2) : Below w.heap.size w w2 := h.trans (k.mono h.size)

set_option maxHeartbeats 2000000 in
set_option maxRecDepth 100000 in
theorem natAround_walk (a : Option Addr) (n c : Nat) (b : Option Addr) (m d : Nat) (X Y : Nat) (w : World) (h : Num .u64 B64 w (.slice a n c) X n) (k : Num .u64 B64 w (.slice b m d) Y m) :
    Calls Try.prog 9 #[.slice a n c, .slice b m d] w fun e w' => e = .returned (.bool true) ∧ Below w.heap.size w w' := by
  have H := Lib.hid h
  have K := Lib.hid k
  obtain ⟨_, _, e1, hc1, hc2⟩ := h.form
  cases e1
  obtain ⟨_, _, e1, hd1, hd2⟩ := k.form
  cases e1
  clear h k
  by_cases hg : n ≤ 40 ∧ m ≤ 40
  · obtain ⟨hn, hm⟩ := hg
    go_enter Try.func9, Try.ntmps9
    go_wp2_with fail
    refine (awake1_calls w).mono ?_
    rintro e w1 ⟨rfl, hb⟩
    have B1 := Lib.hid hb
    replace H := Lib.hid (H.out.below hb)
    replace K := Lib.hid (K.out.below hb)
    clear hb
    go_wp2_with fail
    refine (natMul_calls _ _ X Y n m w1 H.out K.out (fun p q hp hq => by have := hp.le H.out.lt; have := hq.le K.out.lt; omega)).mono ?_
    rintro e w2 ⟨P, p, rfl, hP, hlP, hb⟩
    have B2 : Hid (Below w.heap.size w w2) := below_next B1.out hb
    replace H := Lib.hid (H.out.below hb)
    replace K := Lib.hid (K.out.below hb)
    have HP := Lib.hid hP
    have LP := Lib.hid hlP
    clear hb hP hlP
    go_wp2_with fail
    refine (natMul_calls _ _ Y X m n w2 K.out H.out (fun p q hp hq => by have := hp.le K.out.lt; have := hq.le H.out.lt; omega)).mono ?_
    rintro e w3 ⟨Q, q, rfl, hQ, hlQ, hb⟩
    rw [Nat.mul_comm Y X] at hQ hlQ
    have B3 : Hid (Below w.heap.size w w3) := below_next B2.out hb
    replace H := Lib.hid (H.out.below hb)
    replace K := Lib.hid (K.out.below hb)
    replace HP := Lib.hid (HP.out.below hb)
    have HQ := Lib.hid hQ
    have LQ := Lib.hid hlQ
    clear hb hQ hlQ
    go_wp2_with fail
    refine (natAdd_calls _ _ X Y n m w3 H.out K.out (by omega) (by omega)).mono ?_
    rintro e w4 ⟨S, r, rfl, hS, hlS, hb⟩
    have hr : r ≤ 41 := hlS.le (Nat.lt_of_lt_of_le (add_lt_pow (by decide) H.out.lt K.out.lt) (Nat.pow_le_pow_right B64_pos (by omega)))
    have B4 : Hid (Below w.heap.size w w4) := below_next B3.out hb
    replace H := Lib.hid (H.out.below hb)
    replace K := Lib.hid (K.out.below hb)
    replace HP := Lib.hid (HP.out.below hb)
    replace HQ := Lib.hid (HQ.out.below hb)
    have HS := Lib.hid hS
    clear hb hS hlS
    go_wp2_with fail
    refine (natSub_calls _ _ (X + Y) Y r m w4 HS.out K.out (by omega) (by omega) (by omega)).mono ?_
    rintro e w5 ⟨D, s, rfl, hD, hlD, hb⟩
    rw [Nat.add_sub_cancel] at hD hlD
    have B5 : Hid (Below w.heap.size w w5) := below_next B4.out hb
    replace H := Lib.hid (H.out.below hb)
    replace K := Lib.hid (K.out.below hb)
    replace HP := Lib.hid (HP.out.below hb)
    replace HQ := Lib.hid (HQ.out.below hb)
    have HD := Lib.hid hD
    have LD := Lib.hid hlD
    clear hb hD hlD HS
    go_wp2_with fail
    have hb0 : Hid (Below w5.heap.size w5 (w5.alloc (.cells #[.int .u64 1, .int .u64 0] 22))) := (Below.refl _ w5).alloc (Nat.le_refl _) _
    refine (natMul_calls _ _ X 1 n 2 _ (H.out.below hb0.out) (num_one0_lit w5) (fun p q hp hq => by have := hp.le H.out.lt; have := hq.uniq isLen_one; omega)).mono ?_
    rintro e w6 ⟨E, t, rfl, hE, hlE, hb1⟩
    rw [Nat.mul_one] at hE hlE
    have hb := below_next hb0.out hb1
    have B6 : Hid (Below w.heap.size w w6) := below_next B5.out hb
    replace H := Lib.hid (H.out.below hb)
    replace K := Lib.hid (K.out.below hb)
    replace HP := Lib.hid (HP.out.below hb)
    replace HQ := Lib.hid (HQ.out.below hb)
    replace HD := Lib.hid (HD.out.below hb)
    have HE := Lib.hid hE
    have LE := Lib.hid hlE
    clear hb hb1 hE hlE hb0
    go_wp2_with fail
    refine (same_calls _ _ (X * Y) (X * Y) p q w6 HP.out HQ.out).mono ?_
    rintro e w7 ⟨z, rfl, hz, n1, rfl⟩
    obtain rfl : z = true := hz.2 ⟨LP.out.uniq LQ.out, rfl⟩
    clear hz
    have B7 : Hid (Below w.heap.size w (w6.drewN n1)) := below_drewN B6.out n1
    replace H := Lib.hid (H.out.drewN n1)
    replace K := Lib.hid (K.out.drewN n1)
    replace HD := Lib.hid (HD.out.drewN n1)
    replace HE := Lib.hid (HE.out.drewN n1)
    clear HP HQ LP LQ
    obtain ⟨wa, hwa⟩ : ∃ wa, wa = w6.drewN n1 := ⟨_, rfl⟩
    rw [← hwa] at B7 H K HD HE ⊢
    clear hwa
    go_wp2_with fail
    refine (natAdd_calls _ _ X Y n m wa H.out K.out (by omega) (by omega)).mono ?_
    rintro e w8 ⟨S1, r1, rfl, hS1, hlS1, hb⟩
    have B8 : Hid (Below w.heap.size w w8) := below_next B7.out hb
    replace H := Lib.hid (H.out.below hb)
    replace K := Lib.hid (K.out.below hb)
    replace HD := Lib.hid (HD.out.below hb)
    replace HE := Lib.hid (HE.out.below hb)
    have HS1 := Lib.hid hS1
    have LS1 := Lib.hid hlS1
    clear hb hS1 hlS1
    go_wp2_with fail
    refine (natAdd_calls _ _ Y X m n w8 K.out H.out (by omega) (by omega)).mono ?_
    rintro e w9 ⟨S2, r2, rfl, hS2, hlS2, hb⟩
    rw [Nat.add_comm Y X] at hS2 hlS2
    have B9 : Hid (Below w.heap.size w w9) := below_next B8.out hb
    replace H := Lib.hid (H.out.below hb)
    replace HD := Lib.hid (HD.out.below hb)
    replace HE := Lib.hid (HE.out.below hb)
    replace HS1 := Lib.hid (HS1.out.below hb)
    have HS2 := Lib.hid hS2
    have LS2 := Lib.hid hlS2
    clear hb hS2 hlS2 K
    go_wp2_with fail
    refine (same_calls _ _ (X + Y) (X + Y) r1 r2 w9 HS1.out HS2.out).mono ?_
    rintro e w10 ⟨z, rfl, hz, n2, rfl⟩
    obtain rfl : z = true := hz.2 ⟨LS1.out.uniq LS2.out, rfl⟩
    clear hz HS1 HS2 LS1 LS2
    go_wp2_with fail
    refine (natPlain_calls _ n X _ (H.out.drewN n2)).mono ?_
    rintro e w' ⟨A1, u1, rfl, rfl, _, HA1, LA1⟩
    have HA1' := Lib.hid HA1
    have LA1' := Lib.hid LA1
    clear HA1 LA1
    go_wp2_with fail
    refine (same_calls _ _ X X s u1 _ (HD.out.drewN n2) HA1'.out).mono ?_
    rintro e w10 ⟨z, rfl, hz, n3, rfl⟩
    obtain rfl : z = true := hz.2 ⟨LD.out.uniq LA1'.out, rfl⟩
    clear hz
    go_wp2_with fail
    refine (natPlain_calls _ n X _ (H.out.drewN _)).mono ?_
    rintro e w' ⟨A2, u2, rfl, rfl, _, HA2, LA2⟩
    have HA2' := Lib.hid HA2
    have LA2' := Lib.hid LA2
    clear HA2 LA2
    go_wp2_with fail
    refine (same_calls _ _ X X t u2 _ (HE.out.drewN _) HA2'.out).mono ?_
    rintro e w10 ⟨z, rfl, hz, n4, rfl⟩
    obtain rfl : z = true := hz.2 ⟨LE.out.uniq LA2'.out, rfl⟩
    clear hz
    go_wp2_with fail
    go_ret
    exact ⟨rfl, by first | exact below_drewN B9.out _ | exact below_drewN (below_drewN B9.out _) _ | exact below_drewN (below_drewN (below_drewN B9.out _) _) _⟩
  · have hg' : 40 < n ∨ (¬ 40 < n ∧ 40 < m) := by omega
    clear hg
    rcases hg' with h1 | ⟨h1, h2⟩
    all_goals
      go_enter Try.func9, Try.ntmps9
      go_wp2_with fail
      refine (awake1_calls w).mono ?_
      rintro e w1 ⟨rfl, hb1⟩
      have hb1' := Lib.hid hb1
      clear hb1
      go_wp2_with fail
      go_ret
      exact ⟨rfl, hb1'.out⟩
end Go.Proofs.Ytmkpeihcchdjcaa
