/- The walk of outriggerlaw04.awake. -/
import Derived.Test.YtmobnjlbbhhedaaGreatDoorReD
import Derived.Test.YtmobnjlbbhhedaaGreatDoorRtoC
import Derived.Test.YtmobnjlbbhhedaaGreatDoorRto
set_option linter.unusedVariables false
set_option linter.unusedSimpArgs false
namespace Go.Proofs.YtmobnjlbbhhedaaGreatDoor
open Go.RowKit

theorem CInt.at {w : World} {s : Bool} {X L : Nat} {v : Value} (h : CInt w v (sgn s X) L) (hs : s = true → 0 < X) : ∃ A n c, v = .agg #[.bool s, .slice A n c] ∧ Num .u64 B64 w (.slice A n c) X n ∧ IsLen B64 X n ∧ n ≤ L := by
  obtain ⟨s', A, n, c, X', rfl, h1, h2, h3, h4, h5⟩ := h
  obtain ⟨rfl, rfl⟩ := sgn_inj h4 hs h5
  exact ⟨A, n, c, rfl, h1, h2, h3⟩
theorem text32 : ratText (sgn true 3) 2 = [45, 51, 47, 50] := by
  have e3 : Lib.decDigits 3 = [51] := Lib.decDigits_one (by decide)
  have e2 : Lib.decDigits 2 = [50] := Lib.decDigits_one (by decide)
  rw [ratText, if_neg (by decide), itoa_sgn, e3, e2]
  rfl
set_option maxHeartbeats 4000000 in
set_option maxRecDepth 100000 in
theorem awake4_calls (w : World) (hT : TabAt w) (htab : Lib.TabIs Tryz.prog w "internal/strconv.uint64pow10" .u64 Lib.pow10Tab) :
    Calls Tryz.prog 7 #[] w fun e w' => e = .returned (.bool true) ∧ Below w.heap.size w w' := by
  have T := Lib.hid hT
  have TT := Lib.hid (Lib.tabBelow_of_tabIs htab)
  clear hT htab
  go_enter Tryz.func7, Tryz.ntmps7
  go_wp2_with fail
  refine (small6_calls w).mono ?_
  rintro e w1 ⟨v1, rfl, hR1, hb⟩
  have B1 := Lib.hid hb
  have R1 := Lib.hid hR1
  clear hb hR1
  go_wp2_with fail
  refine (toz_calls v1 6 4 w1 R1.out (by omega)).mono ?_
  rintro e w2 ⟨v2, rfl, hC, hb⟩
  have B2 := Lib.hid (below_next' B1.out hb)
  obtain ⟨A2, n2, c2, rfl, hN2, hl2, hn2⟩ := CInt.at (s := false) (X := 6) hC (by simp)
  have N2 := Lib.hid hN2
  clear hb hC hN2 B1 R1
  go_wp2_with fail
  refine (small4_calls w2).mono ?_
  rintro e w3 ⟨v3, rfl, hR3, hb⟩
  have B3 := Lib.hid (below_next' B2.out hb)
  have R3 := Lib.hid hR3
  replace N2 := Lib.hid (N2.out.below hb)
  clear hb hR3 B2
  go_wp2_with fail
  refine (toz_calls v3 (-4) 6 w3 R3.out (by omega)).mono ?_
  rintro e w4 ⟨v4, rfl, hC, hb⟩
  have B4 := Lib.hid (below_next' B3.out hb)
  obtain ⟨A4, n4, c4, rfl, hN4, hl4, hn4⟩ := CInt.at (s := true) (X := 4) hC (by simp)
  have N4 := Lib.hid hN4
  replace N2 := Lib.hid (N2.out.below hb)
  clear hb hC hN4 B3 R3
  go_wp2_with fail
  refine (make_calls false A2 n2 c2 6 true A4 n4 c4 4 _ N2.out N4.out (by omega) (by omega) (T.out.below B4.out)).mono ?_
  rintro e w5 ⟨_, hc, hb⟩
  obtain ⟨ns, NA, nn, ds, DA, dn, rfl, hN, hD⟩ := hc (by decide)
  have e1 : sgn (false != true) (6 / Nat.gcd 6 4) = sgn true 3 := rfl
  have e2 : sgn false (4 / Nat.gcd 6 4) = sgn false 2 := rfl
  rw [e1] at hN
  rw [e2] at hD
  obtain ⟨_, _, _, e3, hn1, hn2', hn3⟩ := CInt.at hN.toC (by simp)
  cases e3
  obtain ⟨_, _, _, e3, hd1, hd2, hd3⟩ := CInt.at hD.toC (by simp)
  cases e3
  have hright : Hid (RightR true 3 nn false 2 dn) := ⟨⟨hn2', by simp⟩, ⟨hd2, by simp⟩, rfl, by decide, by decide⟩
  have B5 := Lib.hid (below_next' B4.out hb)
  have NN := Lib.hid hn1
  have ND := Lib.hid hd1
  clear hb hc hN hD e1 e2 hn1 hd1 hn2' hd2 B4 N2 N4
  have Ba : Hid (∀ o, Below w5.heap.size w5 (w5.alloc o)) := fun o => (Below.refl _ _).alloc (Nat.le_refl _) _
  have CA : Hid (∀ t, (w5.alloc (.cells #[.bool true, .slice NA nn nn, .bool false, .slice DA dn dn] t)).cell? ⟨w5.heap.size, 0, none⟩ = some (.bool true) ∧ (w5.alloc (.cells #[.bool true, .slice NA nn nn, .bool false, .slice DA dn dn] t)).cell? ⟨w5.heap.size, 1, none⟩ = some (.slice NA nn nn) ∧ (w5.alloc (.cells #[.bool true, .slice NA nn nn, .bool false, .slice DA dn dn] t)).cell? ⟨w5.heap.size, 2, none⟩ = some (.bool false) ∧ (w5.alloc (.cells #[.bool true, .slice NA nn nn, .bool false, .slice DA dn dn] t)).cell? ⟨w5.heap.size, 3, none⟩ = some (.slice DA dn dn)) := fun t => cells4
  have tc := Lib.hid (fun w h k hT ht => rtext_calls true NA nn nn 3 false DA dn dn 2 w h k (by omega) (by omega) hT ht)
  have rc := Lib.hid (fun w h k hT => right_calls true NA nn nn 3 false DA dn dn 2 w h k (by omega) (by omega) hT)
  go_wp2_with fail
  refine (tc.out _ (NN.out.below (Ba.out _)) (ND.out.below (Ba.out _)) (T.out.below (below_next' B5.out (Ba.out _))) (TT.out _ (below_next' B5.out (Ba.out _)))).mono ?_
  rintro e w6 ⟨hc, _, hb⟩
  obtain rfl := hc hright.out
  rw [text32]
  have hb2 : Below w5.heap.size w5 w6 := (Ba.out _).trans (hb.mono (by simp))
  have B6 := Lib.hid (below_next' B5.out hb2)
  have d0 := cell_below hb (CA.out _).1
  have d1 := cell_below hb (CA.out _).2.1
  have d2 := cell_below hb (CA.out _).2.2.1
  have d3 := cell_below hb (CA.out _).2.2.2
  replace NN := Lib.hid (NN.out.below hb2)
  replace ND := Lib.hid (ND.out.below hb2)
  clear hc hb hb2 Ba CA B5 tc
  go_wp2_with fail
  refine (rc.out _ NN.out ND.out (T.out.below B6.out)).mono ?_
  rintro e w7 ⟨b, rfl, hbi, hb⟩
  obtain rfl : b = true := hbi.2 (by simpa [RightR] using hright.out)
  have B7 := Lib.hid (below_next' B6.out hb)
  clear hbi hb B6 d0 d1 d2 d3 rc NN ND
  go_wp2_with fail
  refine (right_calls false none 0 0 0 false none 0 0 0 _ (Num.nil ..) (Num.nil ..) (by omega) (by omega) (T.out.below B7.out)).mono ?_
  rintro e w8 ⟨b, rfl, hbi, hb⟩
  obtain rfl : b = false := by
    cases b with
    | false => rfl
    | true => have := (hbi.1 rfl).2.2.2.1; omega
  have B8 := Lib.hid (below_next' B7.out hb)
  clear hbi hb B7
  go_wp2_with fail
  go_ret
  exact ⟨rfl, B8.out⟩
end Go.Proofs.YtmobnjlbbhhedaaGreatDoor
