/-
  DERIVED. GIVEN WITH THE SEED: THE CARDS: each row of YtmobnjlbbhhedaaGreatDoorRows.lean that lists a variable, with what it lists TIED to the program's text (the seventh form; the later family's looks); each row that meets fmt, with fmt's text TOLD by the authors' own Lean function (tested against real Go, not proved from fmt's source: count such statements apart). THE CARD IS WHAT COUNTS. Prove the row's statement (the work); the ties are given (YtmobnjlbbhhedaaGreatDoorTie.lean); close each card by the builder's one call (the guide's Derived/Test/ToyasCard.lean, 'card_holds'). Laid BY PROGRAM, IN A SANDBOX (cutbox-door.mjs). By AI agents, Wed Nov 11 2026. No macro, syntax, notation, axiom, sorry.
-/
import Derived.Test.YtmobnjlbbhhedaaGreatDoorRows
import GoSem.ClaimSeven
namespace Go.Proofs.YtmobnjlbbhhedaaGreatDoor
namespace Rows

/-- THE TIED CARD OF 'outriggerlaw04.RatioOne'. -/
def ratioOneCard : Claim7 := { stood := { row := ratioOneRow, standIns := [], harness := (true, "0eb848a04edcd5576572226152b0ba28088b708cae470bfb555161b52e42af72"), looks := true }, kinds := [], alts := [], laidByText := true, laidKinds := [.data, .data, .data], laidTests := true, laidLooks := .later }
def RatioOneCardSaid : Prop := Claim7.holds Tryz.pinned (.plain (OpenSpec.ofChange ratioOneSpec)) ratioOneCard

/-- THE TIED CARD OF 'outriggerlaw04.RatioOrder'. -/
def ratioOrderCard : Claim7 := { stood := { row := ratioOrderRow, standIns := [], harness := (true, "0eb848a04edcd5576572226152b0ba28088b708cae470bfb555161b52e42af72"), looks := true }, kinds := [], alts := [], laidByText := true, laidKinds := [.data, .data, .data], laidTests := true, laidLooks := .later }
def RatioOrderCardSaid : Prop := Claim7.holds Tryz.pinned (.plain (OpenSpec.ofChange ratioOrderSpec)) ratioOrderCard

/-- THE TIED CARD OF 'outriggerlaw04.RatioMakes'. -/
def ratioMakesCard : Claim7 := { stood := { row := ratioMakesRow, standIns := [], harness := (true, "0eb848a04edcd5576572226152b0ba28088b708cae470bfb555161b52e42af72"), looks := true }, kinds := [], alts := [], laidByText := true, laidKinds := [.data, .data, .data, .handle], laidTests := true, laidLooks := .later }
def RatioMakesCardSaid : Prop := Claim7.holds Tryz.pinned (.plain (OpenSpec.ofChange ratioMakesSpec)) ratioMakesCard

/-- THE TIED CARD OF 'outriggerlaw04.RatioTells'. -/
def ratioTellsCard : Claim7 := { stood := { row := ratioTellsRow, standIns := [], harness := (true, "0eb848a04edcd5576572226152b0ba28088b708cae470bfb555161b52e42af72"), looks := true }, kinds := [], alts := [], laidByText := true, laidKinds := [.data, .data, .data, .handle], laidTests := true, laidLooks := .later }
def RatioTellsCardSaid : Prop := Claim7.holds Tryz.pinned (.plain (OpenSpec.ofChange ratioTellsSpec)) ratioTellsCard

/-- THE SECOND FORM's CARD OF 'outriggerlaw04.RatioOne'. -/
def ratioOneUptoCard : Claim7 := { stood := { row := ratioOneUptoRow, standIns := [], harness := (true, "0eb848a04edcd5576572226152b0ba28088b708cae470bfb555161b52e42af72"), looks := true }, kinds := [], alts := [], laidByText := true, laidKinds := [.data, .data, .data], laidTests := true, laidLooks := .later }
def RatioOneUptoCardSaid : Prop := Claim7.holds Tryz.pinned (.plain (OpenSpec.upto ratioOneSpec)) ratioOneUptoCard

/-- THE SECOND FORM's CARD OF 'outriggerlaw04.RatioOrder'. -/
def ratioOrderUptoCard : Claim7 := { stood := { row := ratioOrderUptoRow, standIns := [], harness := (true, "0eb848a04edcd5576572226152b0ba28088b708cae470bfb555161b52e42af72"), looks := true }, kinds := [], alts := [], laidByText := true, laidKinds := [.data, .data, .data], laidTests := true, laidLooks := .later }
def RatioOrderUptoCardSaid : Prop := Claim7.holds Tryz.pinned (.plain (OpenSpec.upto ratioOrderSpec)) ratioOrderUptoCard

/-- THE SECOND FORM's CARD OF 'outriggerlaw04.RatioMakes'. -/
def ratioMakesUptoCard : Claim7 := { stood := { row := ratioMakesUptoRow, standIns := [], harness := (true, "0eb848a04edcd5576572226152b0ba28088b708cae470bfb555161b52e42af72"), looks := true }, kinds := [], alts := [], laidByText := true, laidKinds := [.data, .data, .data, .handle], laidTests := true, laidLooks := .later }
def RatioMakesUptoCardSaid : Prop := Claim7.holds Tryz.pinned (.plain (OpenSpec.upto ratioMakesSpec)) ratioMakesUptoCard

/-- THE SECOND FORM's CARD OF 'outriggerlaw04.RatioTells'. -/
def ratioTellsUptoCard : Claim7 := { stood := { row := ratioTellsUptoRow, standIns := [], harness := (true, "0eb848a04edcd5576572226152b0ba28088b708cae470bfb555161b52e42af72"), looks := true }, kinds := [], alts := [], laidByText := true, laidKinds := [.data, .data, .data, .handle], laidTests := true, laidLooks := .later }
def RatioTellsUptoCardSaid : Prop := Claim7.holds Tryz.pinned (.plain (OpenSpec.upto ratioTellsSpec)) ratioTellsUptoCard
end Rows
end Go.Proofs.YtmobnjlbbhhedaaGreatDoor
