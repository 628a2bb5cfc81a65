/- nat.Shl where it is refused. -/
import Derived.Test.YtmkpeihcchdjcaaDoorNatE
set_option linter.unusedVariables false
set_option linter.unusedSimpArgs false
namespace Go.Proofs.YtmkpeihcchdjcaaDoor
open Go.RowKit

theorem natShl_range (v : Value) (X m : Nat) (z : Int) (w : World) (h : Num .u64 B64 w v X m) (hz : z < 0 ∨ 65536 < z) :
    Calls Tryd.prog 31 #[v, .int .i64 z] w fun e w' => e = .returned (.tuple #[.slice none 0 0, errN 7]) ∧ w = w' := by
  have H := Lib.hid h
  clear h
  rcases (by omega : z < 0 ∨ (¬ z < 0 ∧ 65536 < z)) with h1 | ⟨h1, h2⟩
  all_goals
    clear hz
    go_enter Tryd.func31, Tryd.ntmps31
    go_wp2_with fail
    refine (natPlain_calls v m X w H.out).mono ?_
    rintro e w' ⟨A, a, rfl, rfl, ha, HA, hla⟩
    clear HA hla ha H
    go_wp2_with fail
    go_ret2
    exact ⟨rfl, rfl⟩
end Go.Proofs.YtmkpeihcchdjcaaDoor
