/-
  DERIVED. GIVEN WITH THE SEED: THE CARDS: each row of YtmkpeihcchdjcaaDoorRows.lean that lists a variable, with what it lists TIED to the program's text (the seventh form; the later family's looks); each row that meets fmt, with fmt's text TOLD by the authors' own Lean function (tested against real Go, not proved from fmt's source: count such statements apart). THE CARD IS WHAT COUNTS. Prove the row's statement (the work); the ties are given (YtmkpeihcchdjcaaDoorTie.lean); close each card by the builder's one call (the guide's Derived/Test/ToyasCard.lean, 'card_holds'). Laid BY PROGRAM, IN A SANDBOX (cutbox-door.mjs). By AI agents, Wed Nov 11 2026. No macro, syntax, notation, axiom, sorry.
-/
import Derived.Test.YtmkpeihcchdjcaaDoorRows
import GoSem.ClaimSeven
namespace Go.Proofs.YtmkpeihcchdjcaaDoor
namespace Rows

/-- THE TIED CARD OF 'outriggerlaw05.FloatCmp'. -/
def floatCmpCard : Claim7 := { stood := { row := floatCmpRow, standIns := [], harness := (true, "1c3bdc5c550b549e9f1a59004cc07a229d0247bcca56cd3162d0a4cdf967f011"), looks := true }, kinds := [], alts := [], laidByText := true, laidKinds := [.data, .handle], laidTests := true, laidLooks := .later }
def FloatCmpCardSaid : Prop := Claim7.holds Tryd.pinned (.plain (OpenSpec.ofChange floatCmpSpec)) floatCmpCard

/-- THE TIED CARD OF 'outriggerlaw05.FloatParts'. -/
def floatPartsCard : Claim7 := { stood := { row := floatPartsRow, standIns := [], harness := (true, "1c3bdc5c550b549e9f1a59004cc07a229d0247bcca56cd3162d0a4cdf967f011"), looks := true }, kinds := [], alts := [], laidByText := true, laidKinds := [.data, .handle], laidTests := true, laidLooks := .later }
def FloatPartsCardSaid : Prop := Claim7.holds Tryd.pinned (.plain (OpenSpec.ofChange floatPartsSpec)) floatPartsCard

/-- THE TIED CARD OF 'outriggerlaw05.FloatOrder'. -/
def floatOrderCard : Claim7 := { stood := { row := floatOrderRow, standIns := [], harness := (true, "1c3bdc5c550b549e9f1a59004cc07a229d0247bcca56cd3162d0a4cdf967f011"), looks := true }, kinds := [], alts := [], laidByText := true, laidKinds := [.data, .handle], laidTests := true, laidLooks := .later }
def FloatOrderCardSaid : Prop := Claim7.holds Tryd.pinned (.plain (OpenSpec.ofChange floatOrderSpec)) floatOrderCard

/-- THE TIED CARD OF 'outriggerlaw01.NatSums'. -/
def natSumsCard : Claim7 := { stood := { row := natSumsRow, standIns := [], harness := (true, "1c3bdc5c550b549e9f1a59004cc07a229d0247bcca56cd3162d0a4cdf967f011"), looks := true }, kinds := [], alts := [], laidByText := true, laidKinds := [.handle], laidTests := true, laidLooks := .later }
def NatSumsCardSaid : Prop := Claim7.holds Tryd.pinned (.plain (OpenSpec.ofChange natSumsSpec)) natSumsCard

/-- THE TIED CARD OF 'outriggerlaw01.NatShifts'. -/
def natShiftsCard : Claim7 := { stood := { row := natShiftsRow, standIns := [], harness := (true, "1c3bdc5c550b549e9f1a59004cc07a229d0247bcca56cd3162d0a4cdf967f011"), looks := true }, kinds := [], alts := [], laidByText := true, laidKinds := [.handle], laidTests := true, laidLooks := .later }
def NatShiftsCardSaid : Prop := Claim7.holds Tryd.pinned (.plain (OpenSpec.ofChange natShiftsSpec)) natShiftsCard

/-- THE SECOND FORM's CARD OF 'outriggerlaw05.FloatCmp'. -/
def floatCmpUptoCard : Claim7 := { stood := { row := floatCmpUptoRow, standIns := [], harness := (true, "1c3bdc5c550b549e9f1a59004cc07a229d0247bcca56cd3162d0a4cdf967f011"), looks := true }, kinds := [], alts := [], laidByText := true, laidKinds := [.data, .handle], laidTests := true, laidLooks := .later }
def FloatCmpUptoCardSaid : Prop := Claim7.holds Tryd.pinned (.plain (OpenSpec.upto floatCmpSpec)) floatCmpUptoCard

/-- THE SECOND FORM's CARD OF 'outriggerlaw05.FloatParts'. -/
def floatPartsUptoCard : Claim7 := { stood := { row := floatPartsUptoRow, standIns := [], harness := (true, "1c3bdc5c550b549e9f1a59004cc07a229d0247bcca56cd3162d0a4cdf967f011"), looks := true }, kinds := [], alts := [], laidByText := true, laidKinds := [.data, .handle], laidTests := true, laidLooks := .later }
def FloatPartsUptoCardSaid : Prop := Claim7.holds Tryd.pinned (.plain (OpenSpec.upto floatPartsSpec)) floatPartsUptoCard

/-- THE SECOND FORM's CARD OF 'outriggerlaw05.FloatOrder'. -/
def floatOrderUptoCard : Claim7 := { stood := { row := floatOrderUptoRow, standIns := [], harness := (true, "1c3bdc5c550b549e9f1a59004cc07a229d0247bcca56cd3162d0a4cdf967f011"), looks := true }, kinds := [], alts := [], laidByText := true, laidKinds := [.data, .handle], laidTests := true, laidLooks := .later }
def FloatOrderUptoCardSaid : Prop := Claim7.holds Tryd.pinned (.plain (OpenSpec.upto floatOrderSpec)) floatOrderUptoCard

/-- THE SECOND FORM's CARD OF 'outriggerlaw01.NatSums'. -/
def natSumsUptoCard : Claim7 := { stood := { row := natSumsUptoRow, standIns := [], harness := (true, "1c3bdc5c550b549e9f1a59004cc07a229d0247bcca56cd3162d0a4cdf967f011"), looks := true }, kinds := [], alts := [], laidByText := true, laidKinds := [.handle], laidTests := true, laidLooks := .later }
def NatSumsUptoCardSaid : Prop := Claim7.holds Tryd.pinned (.plain (OpenSpec.upto natSumsSpec)) natSumsUptoCard

/-- THE SECOND FORM's CARD OF 'outriggerlaw01.NatShifts'. -/
def natShiftsUptoCard : Claim7 := { stood := { row := natShiftsUptoRow, standIns := [], harness := (true, "1c3bdc5c550b549e9f1a59004cc07a229d0247bcca56cd3162d0a4cdf967f011"), looks := true }, kinds := [], alts := [], laidByText := true, laidKinds := [.handle], laidTests := true, laidLooks := .later }
def NatShiftsUptoCardSaid : Prop := Claim7.holds Tryd.pinned (.plain (OpenSpec.upto natShiftsSpec)) natShiftsUptoCard
end Rows
end Go.Proofs.YtmkpeihcchdjcaaDoor
