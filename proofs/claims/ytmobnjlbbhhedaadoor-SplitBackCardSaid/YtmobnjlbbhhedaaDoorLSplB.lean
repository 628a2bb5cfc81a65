/- The walk of the statement SplitBack. -/
import Derived.Test.YtmobnjlbbhhedaaDoorAwk3
import Derived.Test.YtmobnjlbbhhedaaDoorNatF
import Derived.Test.YtmobnjlbbhhedaaDoorRefA
set_option linter.unusedVariables false
set_option linter.unusedSimpArgs false
namespace Go.Proofs.YtmobnjlbbhhedaaDoor
open Go.RowKit

theorem below_next {w w1 w2 : World} (h : Below w.heap.size w w1) (k : Below w1.heap.size w1 w2) : Below w.heap.size w w2 := h.trans (k.mono h.size)
theorem isLen2_zero {l : Nat} (h : IsLen 2 0 l) : l = 0 := h.uniq (IsLen.zero 2)
theorem isLen2_pos {Y l : Nat} (h : IsLen 2 Y l) (hY : 0 < Y) : 0 < l := h.pos hY

set_option maxHeartbeats 2000000 in
set_option maxRecDepth 100000 in
theorem splitBack_walk (a : Option Addr) (n c : Nat) (b : Option Addr) (m d : Nat) (X Y : Nat) (w : World) (h : Num .u64 B64 w (.slice a n c) X n) (k : Num .u64 B64 w (.slice b m d) Y m)
    (hT : TabAt w) (htab : Lib.TabIs Tryd.prog w "internal/strconv.uint64pow10" .u64 Lib.pow10Tab) :
    Calls Tryd.prog 5 #[.slice a n c, .slice b m d] w fun e w' => e = .returned (.bool true) ∧ Below w.heap.size w w' := by
  have H := Lib.hid h
  have K := Lib.hid k
  have T := Lib.hid hT
  have TT := Lib.hid htab
  obtain ⟨_, _, e1, hc1, hc2⟩ := h.form
  cases e1
  obtain ⟨_, _, e1, hd1, hd2⟩ := k.form
  cases e1
  clear h k hT htab
  by_cases hg : n ≤ 200 ∧ m ≤ 200
  · obtain ⟨hn, hm⟩ := hg
    go_enter Tryd.func5, Tryd.ntmps5
    go_wp2_with fail
    refine (awake3_calls w T.out TT.out).mono ?_
    rintro e w1 ⟨rfl, hb⟩
    have B1 := Lib.hid hb
    replace H := Lib.hid (H.out.below hb)
    replace K := Lib.hid (K.out.below hb)
    clear hb T TT
    go_wp2_with fail
    refine (natLen_calls _ Y m _ K.out (by omega)).mono ?_
    rintro e w' ⟨l, rfl, hl, rfl⟩
    rcases Nat.eq_zero_or_pos Y with hY | hY
    · subst hY
      obtain rfl := isLen2_zero hl
      clear hl
      go_wp2_with fail
      go_ret
      exact ⟨rfl, B1.out⟩
    · have hl0 : ((l : Int) == 0) = false := by
        have := isLen2_pos hl hY
        simp; omega
      have hY' := Lib.hid hY
      clear hl hY
      go_wp2_with fail
      refine (quo_calls _ _ X Y n m w1 H.out K.out (by omega) (by omega) hY'.out).mono ?_
      rintro e w2 ⟨v1, v2, rfl, ⟨⟨q, hQ, lQ⟩, r, hR, lR⟩, hb⟩
      have B2 : Hid (Below w.heap.size w w2) := below_next B1.out hb
      replace H := Lib.hid (H.out.below hb)
      replace K := Lib.hid (K.out.below hb)
      have HQ := Lib.hid hQ
      have HR := Lib.hid hR
      have hq : q ≤ n := lQ.le (Nat.lt_of_le_of_lt (Nat.div_le_self _ _) H.out.lt)
      have hr : r ≤ n := lR.le (Nat.lt_of_le_of_lt (Nat.mod_le _ _) H.out.lt)
      clear hQ hR lQ lR hb B1
      go_wp2_with fail
      refine (natMul_calls _ _ (X / Y) Y q m w2 HQ.out K.out (fun p s hp hs => by have := hp.le HQ.out.lt; have := hs.le K.out.lt; omega)).mono ?_
      rintro e w3 ⟨P, p, rfl, hP, lP, hb⟩
      have B3 : Hid (Below w.heap.size w w3) := below_next B2.out hb
      replace H := Lib.hid (H.out.below hb)
      replace K := Lib.hid (K.out.below hb)
      replace HR := Lib.hid (HR.out.below hb)
      have HP := Lib.hid hP
      have hp : p ≤ n := lP.le (Nat.lt_of_le_of_lt (Nat.div_mul_le_self _ _) H.out.lt)
      clear hP lP hb B2 HQ
      go_wp2_with fail
      refine (natCmp_calls _ _ (X % Y) Y r m w3 HR.out K.out).mono ?_
      rw [cmpN_lt (Nat.mod_lt X hY'.out)]
      rintro e w' ⟨rfl, nd, rfl⟩
      go_wp2_with fail
      refine (natAdd_calls _ _ (X / Y * Y) (X % Y) p r _ (HP.out.drewN nd) (HR.out.drewN nd) (by omega) (by omega)).mono ?_
      rw [Nat.div_add_mod']
      rintro e w4 ⟨S, s, rfl, hS, lS, hb'⟩
      have hb : Below w3.heap.size w3 w4 := (below_drewN (Below.refl _ w3) nd).trans (show Below w3.heap.size (w3.drewN nd) w4 from hb')
      have B4 : Hid (Below w.heap.size w w4) := below_next B3.out hb
      replace H := Lib.hid (H.out.below hb)
      have HS := Lib.hid hS
      have LS := Lib.hid lS
      clear hS lS hb hb' B3 HP HR
      go_wp2_with fail
      refine (natPlain_calls _ n X _ H.out).mono ?_
      rintro e w' ⟨A1, u1, rfl, rfl, _, HA1, LA1⟩
      have HA1' := Lib.hid HA1
      have LA1' := Lib.hid LA1
      clear HA1 LA1
      go_wp2_with fail
      refine (same_calls _ _ X X s u1 _ HS.out HA1'.out).mono ?_
      rintro e w10 ⟨z, rfl, hz, n3, rfl⟩
      obtain rfl : z = true := hz.2 ⟨LS.out.uniq LA1'.out, rfl⟩
      clear hz
      go_wp2_with fail
      go_ret
      exact ⟨rfl, below_drewN B4.out _⟩
  · have hg' : 200 < n ∨ (¬ 200 < n ∧ 200 < m) := by omega
    clear hg
    rcases hg' with h1 | ⟨h1, h2⟩
    all_goals
      go_enter Tryd.func5, Tryd.ntmps5
      go_wp2_with fail
      refine (awake3_calls w T.out TT.out).mono ?_
      rintro e w1 ⟨rfl, hb1⟩
      have hb1' := Lib.hid hb1
      clear hb1
      go_wp2_with fail
      go_ret
      exact ⟨rfl, hb1'.out⟩
end Go.Proofs.YtmobnjlbbhhedaaDoor
