/-
  No cell of these rows narrows 'for every input' (looked for: loops, veiled, ifaces, maps, wideKeys, modest, calm, conditions, laid).
  DERIVED. THE GIVEN ROWS OF THIS SEAT. 7 by the template 'for every input the law returns true; each argument reads behind the call as it read before'; 0 by the template 'total and deterministic' (their statements: YtmkpeihcchdjcaaTotals.lean).
  GIVEN WITH THE SEED: the statements are not yours to turn. If you find one false, say at which input.
  Laid BY PROGRAM, IN A SANDBOX (cutbox-rows.mjs): the forced cells as the released guide's own fill.sh prints them over the translation 7680bf05abedffe2… (all of the seat's roots in one cut). By AI agents, Wed Nov 11 2026. No macro, syntax, notation, axiom, sorry.
-/
import Derived.Test.YtmkpeihcchdjcaaChecked
import GoSem.Claim
import GoSem.ClaimJoined
import GoSem.ClaimMapViews
import Derived.JoinedTies
import Derived.KernelRfl
namespace Go.Proofs.Ytmkpeihcchdjcaa
/- THE CELL 'sum', in the pinned program and in every row, IS THE sha256 OF THE DUMP (.gsa) THAT YtmkpeihcchdjcaaProg.lean LOADS. Nothing in Lean hashes anything: it is a label: what it is worth is what the hold of that sum in a sandbox is worth. -/
noncomputable def Try.pinned : Pinned := { name := "ytmkpeihcchdjcaa", sum := "7680bf05abedffe239681382344b232e24b55c02fb0aada745ba8ce62bd6d3a9", checked := Try.checked }
namespace Rows
def none {H : Type} : Left H := { results := [], args := [] }

/-- 'outriggerlaw07.FilterSure': WHATEVER THE INPUT: true; the input reads as it did. -/
def filterSureSpec : ChangeSpec := { name := "filterSure", fn := fun _ => fun
  | [d1, d2, d3] => { results := [.lit (.bool true)], args := [d1, d2, d3] }
  | _ => none }
def filterSureRow : OpenClaim := { program := "ytmkpeihcchdjcaa", sum := "7680bf05abedffe239681382344b232e24b55c02fb0aada745ba8ce62bd6d3a9", func := "outrigger/outriggerlaw07.FilterSure", spec := "filterSure", inPlace := ["math.Float64bits", "math.Float64frombits"], unfollowed := true, recurses := true, apart := false }
def FilterSureSaid : Prop := filterSureRow.holds Try.pinned (OpenSpec.ofChange filterSureSpec)

/-- ITS FALSE NEIGHBOUR: 'it returns false'. Refute it at one input. -/
def filterSureWrong : ChangeSpec := { name := "filterSure", fn := fun _ => fun
  | [d1, d2, d3] => { results := [.lit (.bool false)], args := [d1, d2, d3] }
  | _ => none }
def FilterSureWrongFalsely : Prop := filterSureRow.holds Try.pinned (OpenSpec.ofChange filterSureWrong)

/-- 'outriggerlaw07.FilterNear': WHATEVER THE INPUT: true; the input reads as it did. -/
def filterNearSpec : ChangeSpec := { name := "filterNear", fn := fun _ => fun
  | [d1, d2] => { results := [.lit (.bool true)], args := [d1, d2] }
  | _ => none }
def filterNearRow : OpenClaim := { program := "ytmkpeihcchdjcaa", sum := "7680bf05abedffe239681382344b232e24b55c02fb0aada745ba8ce62bd6d3a9", func := "outrigger/outriggerlaw07.FilterNear", spec := "filterNear", inPlace := ["math.Float64bits", "math.Float64frombits"], unfollowed := true, recurses := true, apart := false }
def FilterNearSaid : Prop := filterNearRow.holds Try.pinned (OpenSpec.ofChange filterNearSpec)

/-- ITS FALSE NEIGHBOUR: 'it returns false'. Refute it at one input. -/
def filterNearWrong : ChangeSpec := { name := "filterNear", fn := fun _ => fun
  | [d1, d2] => { results := [.lit (.bool false)], args := [d1, d2] }
  | _ => none }
def FilterNearWrongFalsely : Prop := filterNearRow.holds Try.pinned (OpenSpec.ofChange filterNearWrong)

/-- 'outriggerlaw07.FilterTurned': WHATEVER THE INPUT: true; the input reads as it did. -/
def filterTurnedSpec : ChangeSpec := { name := "filterTurned", fn := fun _ => fun
  | [d1, d2, d3] => { results := [.lit (.bool true)], args := [d1, d2, d3] }
  | _ => none }
def filterTurnedRow : OpenClaim := { program := "ytmkpeihcchdjcaa", sum := "7680bf05abedffe239681382344b232e24b55c02fb0aada745ba8ce62bd6d3a9", func := "outrigger/outriggerlaw07.FilterTurned", spec := "filterTurned", inPlace := ["math.Float64bits", "math.Float64frombits"], unfollowed := true, recurses := true, apart := false }
def FilterTurnedSaid : Prop := filterTurnedRow.holds Try.pinned (OpenSpec.ofChange filterTurnedSpec)

/-- ITS FALSE NEIGHBOUR: 'it returns false'. Refute it at one input. -/
def filterTurnedWrong : ChangeSpec := { name := "filterTurned", fn := fun _ => fun
  | [d1, d2, d3] => { results := [.lit (.bool false)], args := [d1, d2, d3] }
  | _ => none }
def FilterTurnedWrongFalsely : Prop := filterTurnedRow.holds Try.pinned (OpenSpec.ofChange filterTurnedWrong)

/-- 'outriggerlaw07.FilterTells': WHATEVER THE INPUT: true; the input reads as it did. -/
def filterTellsSpec : ChangeSpec := { name := "filterTells", fn := fun _ => fun
  | [d1, d2, d3] => { results := [.lit (.bool true)], args := [d1, d2, d3] }
  | _ => none }
def filterTellsRow : OpenClaim := { program := "ytmkpeihcchdjcaa", sum := "7680bf05abedffe239681382344b232e24b55c02fb0aada745ba8ce62bd6d3a9", func := "outrigger/outriggerlaw07.FilterTells", spec := "filterTells", inPlace := ["math.Float64bits", "math.Float64frombits"], unfollowed := true, recurses := true, apart := false }
def FilterTellsSaid : Prop := filterTellsRow.holds Try.pinned (OpenSpec.ofChange filterTellsSpec)

/-- ITS FALSE NEIGHBOUR: 'it returns false'. Refute it at one input. -/
def filterTellsWrong : ChangeSpec := { name := "filterTells", fn := fun _ => fun
  | [d1, d2, d3] => { results := [.lit (.bool false)], args := [d1, d2, d3] }
  | _ => none }
def FilterTellsWrongFalsely : Prop := filterTellsRow.holds Try.pinned (OpenSpec.ofChange filterTellsWrong)

/-- 'outriggerlaw01.NatOrder': WHATEVER THE INPUT: true; the input reads as it did. -/
def natOrderSpec : ChangeSpec := { name := "natOrder", fn := fun _ => fun
  | [d1, d2] => { results := [.lit (.bool true)], args := [d1, d2] }
  | _ => none }
def natOrderRow : OpenClaim := { program := "ytmkpeihcchdjcaa", sum := "7680bf05abedffe239681382344b232e24b55c02fb0aada745ba8ce62bd6d3a9", func := "outrigger/outriggerlaw01.NatOrder", spec := "natOrder", inPlace := ["math/bits.Add64", "math/bits.Sub64", "internal/reflectlite.TypeOf"], unfollowed := true, recurses := true, apart := false }
def NatOrderSaid : Prop := natOrderRow.holds Try.pinned (OpenSpec.ofChange natOrderSpec)

/-- ITS FALSE NEIGHBOUR: 'it returns false'. Refute it at one input. -/
def natOrderWrong : ChangeSpec := { name := "natOrder", fn := fun _ => fun
  | [d1, d2] => { results := [.lit (.bool false)], args := [d1, d2] }
  | _ => none }
def NatOrderWrongFalsely : Prop := natOrderRow.holds Try.pinned (OpenSpec.ofChange natOrderWrong)

/-- 'outriggerlaw01.NatProducts': WHATEVER THE INPUT: true; the input reads as it did. -/
def natProductsSpec : ChangeSpec := { name := "natProducts", fn := fun _ => fun
  | [d1, d2] => { results := [.lit (.bool true)], args := [d1, d2] }
  | _ => none }
def natProductsRow : OpenClaim := { program := "ytmkpeihcchdjcaa", sum := "7680bf05abedffe239681382344b232e24b55c02fb0aada745ba8ce62bd6d3a9", func := "outrigger/outriggerlaw01.NatProducts", spec := "natProducts", inPlace := ["math/bits.Add64", "math/bits.Sub64", "internal/reflectlite.TypeOf"], unfollowed := true, recurses := true, apart := false }
def NatProductsSaid : Prop := natProductsRow.holds Try.pinned (OpenSpec.ofChange natProductsSpec)

/-- ITS FALSE NEIGHBOUR: 'it returns false'. Refute it at one input. -/
def natProductsWrong : ChangeSpec := { name := "natProducts", fn := fun _ => fun
  | [d1, d2] => { results := [.lit (.bool false)], args := [d1, d2] }
  | _ => none }
def NatProductsWrongFalsely : Prop := natProductsRow.holds Try.pinned (OpenSpec.ofChange natProductsWrong)

/-- 'outriggerlaw01.NatAround': WHATEVER THE INPUT: true; the input reads as it did. -/
def natAroundSpec : ChangeSpec := { name := "natAround", fn := fun _ => fun
  | [d1, d2] => { results := [.lit (.bool true)], args := [d1, d2] }
  | _ => none }
def natAroundRow : OpenClaim := { program := "ytmkpeihcchdjcaa", sum := "7680bf05abedffe239681382344b232e24b55c02fb0aada745ba8ce62bd6d3a9", func := "outrigger/outriggerlaw01.NatAround", spec := "natAround", inPlace := ["math/bits.Add64", "math/bits.Sub64", "internal/reflectlite.TypeOf"], unfollowed := true, recurses := true, apart := false }
def NatAroundSaid : Prop := natAroundRow.holds Try.pinned (OpenSpec.ofChange natAroundSpec)

/-- ITS FALSE NEIGHBOUR: 'it returns false'. Refute it at one input. -/
def natAroundWrong : ChangeSpec := { name := "natAround", fn := fun _ => fun
  | [d1, d2] => { results := [.lit (.bool false)], args := [d1, d2] }
  | _ => none }
def NatAroundWrongFalsely : Prop := natAroundRow.holds Try.pinned (OpenSpec.ofChange natAroundWrong)

/- THE SECOND FORM. 'bulk': how many values and letters a reading holds, each counted each time it is reached (what is shared counts as often as it is met; a slice's spare places count too). A statement '..UptoSaid' is the law's where the arguments, and the package variables that the reading takes, are together of bulk at most 1048576: NARROWER than '..Said'. Prove '..Said' where nothing that the law and all that it calls make is longer than what came in: it says more and counts as full. Else prove '..UptoSaid'. A law counts once. -/
mutual
def uptoBulk {H : Type} : DataW H → Nat
  | .lit (.string bytes) => bytes.length + 1
  | .lit _ => 1
  | .nil => 1
  | .ptr d => uptoBulk d + 1
  | .slice elems spare => uptoBulkAll elems + uptoBulkAll spare + 1
  | .agg parts => uptoBulkAll parts + 1
  | .iface _ d => uptoBulk d + 1
  | .map entries => uptoBulkEntries entries + 1
  | .held _ => 1
def uptoBulkAll {H : Type} : List (DataW H) → Nat
  | [] => 0
  | d :: r => uptoBulk d + uptoBulkAll r
def uptoBulkEntries {H : Type} : List (Lit × DataW H) → Nat
  | [] => 0
  | x :: r => uptoBulkEntry x + uptoBulkEntries r
def uptoBulkEntry {H : Type} : Lit × DataW H → Nat
  | (.string bytes, d) => bytes.length + uptoBulk d + 1
  | (_, d) => uptoBulk d + 1
 end
def uptoSmall : (H : Type) → List (DataW H) → Bool := fun _ ds => decide (uptoBulkAll ds ≤ 1048576)
def OpenSpec.upto (s : _root_.Go.ChangeSpec) : _root_.Go.OpenSpec := { _root_.Go.OpenSpec.ofChange s with cond := some uptoSmall }

/-- 'outriggerlaw07.FilterSure', WHERE WHAT IT READS IS OF BULK AT MOST 1048576: true; the input reads as it did. -/
def filterSureUptoRow : OpenClaim := { program := "ytmkpeihcchdjcaa", sum := "7680bf05abedffe239681382344b232e24b55c02fb0aada745ba8ce62bd6d3a9", func := "outrigger/outriggerlaw07.FilterSure", spec := "filterSure", inPlace := ["math.Float64bits", "math.Float64frombits"], unfollowed := true, recurses := true, apart := false, narrowed := true }
def FilterSureUptoSaid : Prop := filterSureUptoRow.holds Try.pinned (OpenSpec.upto filterSureSpec)

/-- 'outriggerlaw07.FilterNear', WHERE WHAT IT READS IS OF BULK AT MOST 1048576: true; the input reads as it did. -/
def filterNearUptoRow : OpenClaim := { program := "ytmkpeihcchdjcaa", sum := "7680bf05abedffe239681382344b232e24b55c02fb0aada745ba8ce62bd6d3a9", func := "outrigger/outriggerlaw07.FilterNear", spec := "filterNear", inPlace := ["math.Float64bits", "math.Float64frombits"], unfollowed := true, recurses := true, apart := false, narrowed := true }
def FilterNearUptoSaid : Prop := filterNearUptoRow.holds Try.pinned (OpenSpec.upto filterNearSpec)

/-- 'outriggerlaw07.FilterTurned', WHERE WHAT IT READS IS OF BULK AT MOST 1048576: true; the input reads as it did. -/
def filterTurnedUptoRow : OpenClaim := { program := "ytmkpeihcchdjcaa", sum := "7680bf05abedffe239681382344b232e24b55c02fb0aada745ba8ce62bd6d3a9", func := "outrigger/outriggerlaw07.FilterTurned", spec := "filterTurned", inPlace := ["math.Float64bits", "math.Float64frombits"], unfollowed := true, recurses := true, apart := false, narrowed := true }
def FilterTurnedUptoSaid : Prop := filterTurnedUptoRow.holds Try.pinned (OpenSpec.upto filterTurnedSpec)

/-- 'outriggerlaw07.FilterTells', WHERE WHAT IT READS IS OF BULK AT MOST 1048576: true; the input reads as it did. -/
def filterTellsUptoRow : OpenClaim := { program := "ytmkpeihcchdjcaa", sum := "7680bf05abedffe239681382344b232e24b55c02fb0aada745ba8ce62bd6d3a9", func := "outrigger/outriggerlaw07.FilterTells", spec := "filterTells", inPlace := ["math.Float64bits", "math.Float64frombits"], unfollowed := true, recurses := true, apart := false, narrowed := true }
def FilterTellsUptoSaid : Prop := filterTellsUptoRow.holds Try.pinned (OpenSpec.upto filterTellsSpec)

/-- 'outriggerlaw01.NatOrder', WHERE WHAT IT READS IS OF BULK AT MOST 1048576: true; the input reads as it did. -/
def natOrderUptoRow : OpenClaim := { program := "ytmkpeihcchdjcaa", sum := "7680bf05abedffe239681382344b232e24b55c02fb0aada745ba8ce62bd6d3a9", func := "outrigger/outriggerlaw01.NatOrder", spec := "natOrder", inPlace := ["math/bits.Add64", "math/bits.Sub64", "internal/reflectlite.TypeOf"], unfollowed := true, recurses := true, apart := false, narrowed := true }
def NatOrderUptoSaid : Prop := natOrderUptoRow.holds Try.pinned (OpenSpec.upto natOrderSpec)

/-- 'outriggerlaw01.NatProducts', WHERE WHAT IT READS IS OF BULK AT MOST 1048576: true; the input reads as it did. -/
def natProductsUptoRow : OpenClaim := { program := "ytmkpeihcchdjcaa", sum := "7680bf05abedffe239681382344b232e24b55c02fb0aada745ba8ce62bd6d3a9", func := "outrigger/outriggerlaw01.NatProducts", spec := "natProducts", inPlace := ["math/bits.Add64", "math/bits.Sub64", "internal/reflectlite.TypeOf"], unfollowed := true, recurses := true, apart := false, narrowed := true }
def NatProductsUptoSaid : Prop := natProductsUptoRow.holds Try.pinned (OpenSpec.upto natProductsSpec)

/-- 'outriggerlaw01.NatAround', WHERE WHAT IT READS IS OF BULK AT MOST 1048576: true; the input reads as it did. -/
def natAroundUptoRow : OpenClaim := { program := "ytmkpeihcchdjcaa", sum := "7680bf05abedffe239681382344b232e24b55c02fb0aada745ba8ce62bd6d3a9", func := "outrigger/outriggerlaw01.NatAround", spec := "natAround", inPlace := ["math/bits.Add64", "math/bits.Sub64", "internal/reflectlite.TypeOf"], unfollowed := true, recurses := true, apart := false, narrowed := true }
def NatAroundUptoSaid : Prop := natAroundUptoRow.holds Try.pinned (OpenSpec.upto natAroundSpec)

end Rows
end Go.Proofs.Ytmkpeihcchdjcaa
