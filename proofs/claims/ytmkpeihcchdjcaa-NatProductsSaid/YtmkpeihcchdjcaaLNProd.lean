/- The walk of the statement NatProducts. -/
import Derived.Test.YtmkpeihcchdjcaaAwk1
import Derived.Test.YtmkpeihcchdjcaaNatC
import Derived.Test.YtmkpeihcchdjcaaRefD
set_option linter.unusedVariables false
set_option linter.unusedSimpArgs false
namespace Go.Proofs.Ytmkpeihcchdjcaa
open Go.RowKit

set_option maxHeartbeats 1000000 in
set_option maxRecDepth 100000 in
theorem natProducts_walk (a : Option Addr) (n c : Nat) (b : Option Addr) (m d : Nat) (X Y : Nat) (w : World) (h : Num .u64 B64 w (.slice a n c) X n) (k : Num .u64 B64 w (.slice b m d) Y m) :
    Calls Try.prog 8 #[.slice a n c, .slice b m d] w fun e w' => e = .returned (.bool true) ∧ Below w.heap.size w w' := by
  have H := Lib.hid h
  have K := Lib.hid k
  obtain ⟨_, _, e1, hc1, hc2⟩ := h.form
  cases e1
  obtain ⟨_, _, e1, hd1, hd2⟩ := k.form
  cases e1
  clear h k
  by_cases hg : n ≤ 40 ∧ m ≤ 40
  · obtain ⟨hn, hm⟩ := hg
    go_enter Try.func8, Try.ntmps8
    go_wp2_with fail
    refine (awake1_calls w).mono ?_
    rintro e w1 ⟨rfl, hb1⟩
    have hb1' := Lib.hid hb1
    clear hb1
    go_wp2_with fail
    refine (natMul_calls _ _ X Y n m w1 (H.out.below hb1'.out) (K.out.below hb1'.out) (fun p q hp hq => by have := hp.le H.out.lt; have := hq.le K.out.lt; omega)).mono ?_
    rintro e w2 ⟨P, p, rfl, hp, hlp, hb2⟩
    have hp' := Lib.hid hp
    have hlp' := Lib.hid hlp
    have hb2' : Hid (Below w.heap.size w w2) := hb1'.out.trans (hb2.mono hb1'.out.size)
    clear hp hlp hb2
    go_wp2_with fail
    refine (digits_calls _ X n w2 (H.out.below hb2'.out) (by omega)).mono ?_
    rintro e w3 ⟨D1, n1, c1, rfl, hD1, hl1, hle1, hb3⟩
    have hD1' := Lib.hid hD1
    have hb3' := Lib.hid hb3
    clear hD1 hl1 hb3
    go_wp2_with fail
    refine (digits_calls _ Y m w3 ((K.out.below hb2'.out).below hb3'.out) (by omega)).mono ?_
    rintro e w4 ⟨D2, n2, c2, rfl, hD2, hl2, hle2, hb4⟩
    have hD2' := Lib.hid hD2
    have hb4' := Lib.hid hb4
    clear hD2 hl2 hb4
    go_wp2_with fail
    refine (refMul_calls _ _ X Y n1 n2 w4 (hD1'.out.below hb4'.out) hD2'.out (by omega) (by omega)).mono ?_
    rintro e w5 ⟨D3, n3, c3, rfl, hD3, hl3, hb5⟩
    have hn3 : n3 ≤ n1 + n2 := hl3.le (mul_lt_pow hD1'.out.lt hD2'.out.lt)
    have hD3' := Lib.hid hD3
    have hl3' := Lib.hid hl3
    have hb5' := Lib.hid hb5
    clear hD3 hl3 hb5
    go_wp2_with fail
    refine (limbs_calls _ (X * Y) n3 w5 hD3'.out (fun j hj => by have := hj.uniq hl3'.out; omega)).mono ?_
    rintro e w6 ⟨v6, t, rfl, h6, hl6, hb6⟩
    have h6' := Lib.hid h6
    have hl6' := Lib.hid hl6
    have hb6' := Lib.hid hb6
    clear h6 hl6 hb6
    go_wp2_with fail
    refine (same_calls _ _ (X * Y) (X * Y) p t w6 ((((hp'.out.below hb3'.out).below hb4'.out).below hb5'.out).below hb6'.out) h6'.out).mono ?_
    rintro e w7 ⟨r, rfl, hr, nd, rfl⟩
    obtain rfl : r = true := hr.2 ⟨hlp'.out.uniq hl6'.out, rfl⟩
    clear hr
    go_wp2_with fail
    go_ret
    refine ⟨rfl, below_drewN ?_ nd⟩
    have b23 : Below w.heap.size w w3 := hb2'.out.trans (hb3'.out.mono hb2'.out.size)
    have b24 : Below w.heap.size w w4 := b23.trans (hb4'.out.mono b23.size)
    have b25 : Below w.heap.size w w5 := b24.trans (hb5'.out.mono b24.size)
    exact b25.trans (hb6'.out.mono b25.size)
  · have hg' : 40 < n ∨ (¬ 40 < n ∧ 40 < m) := by omega
    clear hg
    rcases hg' with h1 | ⟨h1, h2⟩
    all_goals
      go_enter Try.func8, Try.ntmps8
      go_wp2_with fail
      refine (awake1_calls w).mono ?_
      rintro e w1 ⟨rfl, hb1⟩
      have hb1' := Lib.hid hb1
      clear hb1
      go_wp2_with fail
      go_ret
      exact ⟨rfl, hb1'.out⟩
end Go.Proofs.Ytmkpeihcchdjcaa
