/-
  DERIVED. GIVEN WITH THE SEED: THE CARDS: each row of YtmobnjlbbhhedaaDoorRows.lean that lists a variable, with what it lists TIED to the program's text (the seventh form; the later family's looks); each row that meets fmt, with fmt's text TOLD by the authors' own Lean function (tested against real Go, not proved from fmt's source: count such statements apart). THE CARD IS WHAT COUNTS. Prove the row's statement (the work); the ties are given (YtmobnjlbbhhedaaDoorTie.lean); close each card by the builder's one call (the guide's Derived/Test/ToyasCard.lean, 'card_holds'). Laid BY PROGRAM, IN A SANDBOX (cutbox-door.mjs). By AI agents, Wed Nov 11 2026. No macro, syntax, notation, axiom, sorry.
-/
import Derived.Test.YtmobnjlbbhhedaaDoorRows
import GoSem.ClaimSeven
namespace Go.Proofs.YtmobnjlbbhhedaaDoor
namespace Rows

/-- THE TIED CARD OF 'outriggerlaw03.SplitGcd'. -/
def splitGcdCard : Claim7 := { stood := { row := splitGcdRow, standIns := [], harness := (true, "d8e97e728433f9b33fd6ca621ef05249ffd166bc606489e09bfb23fae7788d3f"), looks := true }, kinds := [], alts := [], laidByText := true, laidKinds := [.data, .data, .data], laidTests := true, laidLooks := .later }
def SplitGcdCardSaid : Prop := Claim7.holds Tryd.pinned (.plain (OpenSpec.ofChange splitGcdSpec)) splitGcdCard

/-- THE TIED CARD OF 'outriggerlaw03.SplitScale'. -/
def splitScaleCard : Claim7 := { stood := { row := splitScaleRow, standIns := [], harness := (true, "d8e97e728433f9b33fd6ca621ef05249ffd166bc606489e09bfb23fae7788d3f"), looks := true }, kinds := [], alts := [], laidByText := true, laidKinds := [.data, .data, .data], laidTests := true, laidLooks := .later }
def SplitScaleCardSaid : Prop := Claim7.holds Tryd.pinned (.plain (OpenSpec.ofChange splitScaleSpec)) splitScaleCard

/-- THE TIED CARD OF 'outriggerlaw03.SplitBack'. -/
def splitBackCard : Claim7 := { stood := { row := splitBackRow, standIns := [], harness := (true, "d8e97e728433f9b33fd6ca621ef05249ffd166bc606489e09bfb23fae7788d3f"), looks := true }, kinds := [], alts := [], laidByText := true, laidKinds := [.data, .data, .data], laidTests := true, laidLooks := .later }
def SplitBackCardSaid : Prop := Claim7.holds Tryd.pinned (.plain (OpenSpec.ofChange splitBackSpec)) splitBackCard

/-- THE TIED CARD OF 'outriggerlaw03.SplitQuo'. -/
def splitQuoCard : Claim7 := { stood := { row := splitQuoRow, standIns := [], harness := (true, "d8e97e728433f9b33fd6ca621ef05249ffd166bc606489e09bfb23fae7788d3f"), looks := true }, kinds := [], alts := [], laidByText := true, laidKinds := [.data, .data, .data, .handle], laidTests := true, laidLooks := .later }
def SplitQuoCardSaid : Prop := Claim7.holds Tryd.pinned (.plain (OpenSpec.ofChange splitQuoSpec)) splitQuoCard

/-- THE TIED CARD OF 'outriggerlaw03.SplitTexts'. -/
def splitTextsCard : Claim7 := { stood := { row := splitTextsRow, standIns := [], harness := (true, "d8e97e728433f9b33fd6ca621ef05249ffd166bc606489e09bfb23fae7788d3f"), looks := true }, kinds := [], alts := [], laidByText := true, laidKinds := [.data, .data, .data, .handle], laidTests := true, laidLooks := .later }
def SplitTextsCardSaid : Prop := Claim7.holds Tryd.pinned (.plain (OpenSpec.ofChange splitTextsSpec)) splitTextsCard

/-- THE SECOND FORM's CARD OF 'outriggerlaw03.SplitGcd'. -/
def splitGcdUptoCard : Claim7 := { stood := { row := splitGcdUptoRow, standIns := [], harness := (true, "d8e97e728433f9b33fd6ca621ef05249ffd166bc606489e09bfb23fae7788d3f"), looks := true }, kinds := [], alts := [], laidByText := true, laidKinds := [.data, .data, .data], laidTests := true, laidLooks := .later }
def SplitGcdUptoCardSaid : Prop := Claim7.holds Tryd.pinned (.plain (OpenSpec.upto splitGcdSpec)) splitGcdUptoCard

/-- THE SECOND FORM's CARD OF 'outriggerlaw03.SplitScale'. -/
def splitScaleUptoCard : Claim7 := { stood := { row := splitScaleUptoRow, standIns := [], harness := (true, "d8e97e728433f9b33fd6ca621ef05249ffd166bc606489e09bfb23fae7788d3f"), looks := true }, kinds := [], alts := [], laidByText := true, laidKinds := [.data, .data, .data], laidTests := true, laidLooks := .later }
def SplitScaleUptoCardSaid : Prop := Claim7.holds Tryd.pinned (.plain (OpenSpec.upto splitScaleSpec)) splitScaleUptoCard

/-- THE SECOND FORM's CARD OF 'outriggerlaw03.SplitBack'. -/
def splitBackUptoCard : Claim7 := { stood := { row := splitBackUptoRow, standIns := [], harness := (true, "d8e97e728433f9b33fd6ca621ef05249ffd166bc606489e09bfb23fae7788d3f"), looks := true }, kinds := [], alts := [], laidByText := true, laidKinds := [.data, .data, .data], laidTests := true, laidLooks := .later }
def SplitBackUptoCardSaid : Prop := Claim7.holds Tryd.pinned (.plain (OpenSpec.upto splitBackSpec)) splitBackUptoCard

/-- THE SECOND FORM's CARD OF 'outriggerlaw03.SplitQuo'. -/
def splitQuoUptoCard : Claim7 := { stood := { row := splitQuoUptoRow, standIns := [], harness := (true, "d8e97e728433f9b33fd6ca621ef05249ffd166bc606489e09bfb23fae7788d3f"), looks := true }, kinds := [], alts := [], laidByText := true, laidKinds := [.data, .data, .data, .handle], laidTests := true, laidLooks := .later }
def SplitQuoUptoCardSaid : Prop := Claim7.holds Tryd.pinned (.plain (OpenSpec.upto splitQuoSpec)) splitQuoUptoCard

/-- THE SECOND FORM's CARD OF 'outriggerlaw03.SplitTexts'. -/
def splitTextsUptoCard : Claim7 := { stood := { row := splitTextsUptoRow, standIns := [], harness := (true, "d8e97e728433f9b33fd6ca621ef05249ffd166bc606489e09bfb23fae7788d3f"), looks := true }, kinds := [], alts := [], laidByText := true, laidKinds := [.data, .data, .data, .handle], laidTests := true, laidLooks := .later }
def SplitTextsUptoCardSaid : Prop := Claim7.holds Tryd.pinned (.plain (OpenSpec.upto splitTextsSpec)) splitTextsUptoCard
end Rows
end Go.Proofs.YtmobnjlbbhhedaaDoor
