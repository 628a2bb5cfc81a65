/- errors.Is at two errors of the project's own type. -/
import Derived.Test.YtmobnjlbbhhedaaGreatDoorProg
import Derived.KernelRfl
import Derived.WalkKit
import Derived.LaidEql
import Derived.Stop.Asserts
set_option linter.unusedVariables false
set_option linter.unusedSimpArgs false
namespace Go.Proofs.YtmobnjlbbhhedaaGreatDoor
open Go.RowKit Go.Extern

section
variable {P : Program} (w : World)
theorem run_equalIn_codes (d : Nat) {ti tn : TypeId} {ms : Array (String × TypeId)} {i : TypeInfo} {k : IntKind} (a b : Int)
    (hi : P.underlying ti = some (.interface ms)) (hn : P.underlying tn = some (.int k)) (hinfo : P.info? tn = some i) (hcomp : i.comparable = true) :
    (Op.equalIn (d + 2) ti (.iface tn (.int k a)) (.iface tn (.int k b))).run P w = .ok (a == b) w := by
  simp [Op.equalIn, run_underlying hi, run_underlying hn, typeInfo, hinfo, hcomp]
theorem run_eql_codes {ti tn : TypeId} {ms : Array (String × TypeId)} {i : TypeInfo} {k : IntKind} (a b : Int)
    (hi : P.underlying ti = some (.interface ms)) (hn : P.underlying tn = some (.int k)) (hinfo : P.info? tn = some i) (hcomp : i.comparable = true) :
    (binOp .eql ti (.iface tn (.int k a)) (.iface tn (.int k b))).run P w = .ok (.bool (a == b)) w := by
  simp only [binOp]
  simp [Op.equal, Op.maxDepth, run_equalIn_codes w 9998 a b hi hn hinfo hcomp]
end

theorem isTypeOf (v : Value) (w : World) : (Extern.ReflectliteType.typeOf #[.iface 57 v]).run Tryz.prog w = .ok (.iface 123 (.agg #[.pointer (some ⟨7, 57, none⟩)])) w := by kernel_rfl
theorem isComp : (Tryz.prog.info? 57).map (·.comparable) = some true := by kernel_rfl
theorem isMethod (v : Value) (w : World) : (Go.method 299 123 v "Comparable").run Tryz.prog w = .ok (138, v) w := by kernel_rfl
theorem run_typeOf (v : Value) (w : World) : (callFunc 88 #[.iface 57 v]).run Tryz.prog w = .ok (.value (.iface 123 (.agg #[.pointer (some ⟨7, 57, none⟩)]))) w := by
  rw [run_callFunc_extern Tryz.func88 (by kernel_rfl) (by kernel_rfl) (by kernel_rfl) (e := Extern.ReflectliteType.typeOf) (by kernel_rfl), isTypeOf]
  rfl
theorem run_comp (w : World) : (callFunc 138 #[.agg #[.pointer (some ⟨7, 57, none⟩)]]).run Tryz.prog w = .ok (.value (.bool true)) w := by kernel_rfl

set_option maxRecDepth 100000 in
theorem errIs_same (n : Int) (w : World) :
    Calls Tryz.prog 85 #[.iface 57 (.int .i64 n), .iface 57 (.int .i64 n)] w fun e w' => e = .returned (.bool true) ∧ w = w' := by
  obtain ⟨i, hi, hcmp⟩ := Option.map_eq_some_iff.1 isComp
  have tT := run_typeOf
  have cT := run_comp
  have mR := isMethod
  have heq := run_eql_codes (P := Tryz.prog) w n n Tryz.underlying30 Tryz.underlying57 hi hcmp
  go_enter Tryz.func85, Tryz.ntmps85
  go_wp2
  refine wp_loop_rounds 1 ?_
  rw [rounds_succ]
  go_wp2
  go_ret
  exact ⟨rfl, rfl⟩
end Go.Proofs.YtmobnjlbbhhedaaGreatDoor
