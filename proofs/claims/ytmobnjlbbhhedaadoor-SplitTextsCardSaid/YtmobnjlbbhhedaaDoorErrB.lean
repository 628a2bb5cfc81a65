/- errors.Is of no error. -/
import Derived.Test.YtmobnjlbbhhedaaDoorNatB
set_option linter.unusedVariables false
set_option linter.unusedSimpArgs false
namespace Go.Proofs.YtmobnjlbbhhedaaDoor
open Go.RowKit
theorem run_eql_nil_code (n : Int) (w : World) : (binOp .eql 25 .nilIface (.iface 60 (.int .i64 n))).run Tryd.prog w = .ok (.bool false) w := by kernel_rfl
set_option maxRecDepth 100000 in
theorem errIs_nil (n : Int) (w : World) :
    Calls Tryd.prog 62 #[.nilIface, .iface 60 (.int .i64 n)] w fun e w' => e = .returned (.bool false) ∧ w = w' := by
  have heq := run_eql_nil_code n
  go_enter Tryd.func62, Tryd.ntmps62
  go_wp2
  go_ret
  exact ⟨rfl, rfl⟩
end Go.Proofs.YtmobnjlbbhhedaaDoor
