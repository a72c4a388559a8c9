/-
  DERIVED. GIVEN WITH THE SEED: THE CARDS: each row of YtmjggdmekboefaaGreatDoorRows.lean that lists a variable, with what it lists TIED to the program's text (the seventh form; the later family's looks); each row that meets fmt, with fmt's text TOLD by the authors' own Lean function (tested against real Go, not proved from fmt's source: count such statements apart). THE CARD IS WHAT COUNTS. Prove the row's statement (the work); the ties are given (YtmjggdmekboefaaGreatDoorTie.lean); close each card by the builder's one call (the guide's Derived/Test/ToyasCard.lean, 'card_holds'). Laid BY PROGRAM, IN A SANDBOX (cutbox-door.mjs). By AI agents, Wed Nov 11 2026. No macro, syntax, notation, axiom, sorry.
-/
import Derived.Test.YtmjggdmekboefaaGreatDoorRows
import GoSem.ClaimSeven
namespace Go.Proofs.YtmjggdmekboefaaGreatDoor
namespace Rows

/-- THE TIED CARD OF 'gouachelaw16.DocKey'. -/
def docKeyCard : Claim7 := { stood := { row := docKeyRow, standIns := [], harness := (true, "23030fd68ec06ec8f50ba49be49af641bcabd85ad15c619495003d6d692d3564"), looks := true }, kinds := [], alts := [], laidByText := true, laidKinds := [.data, .data], laidTests := true, laidLooks := .later }
def DocKeyCardSaid : Prop := Claim7.holds Tryz.pinned (.plain (OpenSpec.ofChange docKeySpec)) docKeyCard

/-- THE TIED CARD OF 'gouachelaw16.DocHead'. -/
def docHeadCard : Claim7 := { stood := { row := docHeadRow, standIns := [], harness := (true, "23030fd68ec06ec8f50ba49be49af641bcabd85ad15c619495003d6d692d3564"), looks := true }, kinds := [], alts := [], laidByText := true, laidKinds := [.data, .data], laidTests := true, laidLooks := .later }
def DocHeadCardSaid : Prop := Claim7.holds Tryz.pinned (.plain (OpenSpec.ofChange docHeadSpec)) docHeadCard

/-- THE SECOND FORM's CARD OF 'gouachelaw16.DocKey'. -/
def docKeyUptoCard : Claim7 := { stood := { row := docKeyUptoRow, standIns := [], harness := (true, "23030fd68ec06ec8f50ba49be49af641bcabd85ad15c619495003d6d692d3564"), looks := true }, kinds := [], alts := [], laidByText := true, laidKinds := [.data, .data], laidTests := true, laidLooks := .later }
def DocKeyUptoCardSaid : Prop := Claim7.holds Tryz.pinned (.plain (OpenSpec.upto docKeySpec)) docKeyUptoCard

/-- THE SECOND FORM's CARD OF 'gouachelaw16.DocHead'. -/
def docHeadUptoCard : Claim7 := { stood := { row := docHeadUptoRow, standIns := [], harness := (true, "23030fd68ec06ec8f50ba49be49af641bcabd85ad15c619495003d6d692d3564"), looks := true }, kinds := [], alts := [], laidByText := true, laidKinds := [.data, .data], laidTests := true, laidLooks := .later }
def DocHeadUptoCardSaid : Prop := Claim7.holds Tryz.pinned (.plain (OpenSpec.upto docHeadSpec)) docHeadUptoCard
end Rows
end Go.Proofs.YtmjggdmekboefaaGreatDoor
