/- errors.Is of no error. -/
import Derived.Test.YtmobnjlbbhhedaaGreatDoorNatB
set_option linter.unusedVariables false
set_option linter.unusedSimpArgs false
namespace Go.Proofs.YtmobnjlbbhhedaaGreatDoor
open Go.RowKit
theorem run_eql_nil_code (n : Int) (w : World) : (binOp .eql 30 .nilIface (.iface 57 (.int .i64 n))).run Tryz.prog w = .ok (.bool false) w := by kernel_rfl
set_option maxRecDepth 100000 in
theorem errIs_nil (n : Int) (w : World) :
    Calls Tryz.prog 85 #[.nilIface, .iface 57 (.int .i64 n)] w fun e w' => e = .returned (.bool false) ∧ w = w' := by
  have heq := run_eql_nil_code n
  go_enter Tryz.func85, Tryz.ntmps85
  go_wp2
  go_ret
  exact ⟨rfl, rfl⟩
end Go.Proofs.YtmobnjlbbhhedaaGreatDoor
