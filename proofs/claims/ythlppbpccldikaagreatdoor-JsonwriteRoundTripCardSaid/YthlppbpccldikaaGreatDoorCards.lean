/-
  DERIVED. GIVEN WITH THE SEED: THE CARDS: each row of YthlppbpccldikaaGreatDoorRows.lean that lists a variable, with what it lists TIED to the program's text (the seventh form; the later family's looks); each row that meets fmt, with fmt's text TOLD by the authors' own Lean function (tested against real Go, not proved from fmt's source: count such statements apart). THE CARD IS WHAT COUNTS. Prove the row's statement (the work); the ties are given (YthlppbpccldikaaGreatDoorTie.lean); close each card by the builder's one call (the guide's Derived/Test/ToyasCard.lean, 'card_holds'). Laid BY PROGRAM, IN A SANDBOX (cutbox-door.mjs). By AI agents, Wed Nov 11 2026. No macro, syntax, notation, axiom, sorry.
-/
import Derived.Test.YthlppbpccldikaaGreatDoorRows
import GoSem.ClaimSeven
namespace Go.Proofs.YthlppbpccldikaaGreatDoor
namespace Rows

/-- THE TIED CARD OF 'feedvaultlaw11.JsonvalueMatchesReference'. -/
def jsonvalueMatchesReferenceCard : Claim7 := { stood := { row := jsonvalueMatchesReferenceRow, standIns := [], harness := (true, "d255582f34630749bb1371ee1dd7df4afb6a89bc07ed69f6b4b5ed96c5dbebac"), looks := true }, kinds := [], alts := [], laidByText := true, laidKinds := [.data, .data, .data, .data, .sentinel, .sentinel, .data, .pinned], laidTests := true, laidLooks := .later }
def JsonvalueMatchesReferenceCardSaid : Prop := Claim7.holds Tryz.pinned (.plain (OpenSpec.ofChange jsonvalueMatchesReferenceSpec)) jsonvalueMatchesReferenceCard

/-- THE TIED CARD OF 'feedvaultlaw11.JsonvalueSpaces'. -/
def jsonvalueSpacesCard : Claim7 := { stood := { row := jsonvalueSpacesRow, standIns := [], harness := (true, "d255582f34630749bb1371ee1dd7df4afb6a89bc07ed69f6b4b5ed96c5dbebac"), looks := true }, kinds := [], alts := [], laidByText := true, laidKinds := [.data, .data, .data, .data, .sentinel, .sentinel, .data, .pinned], laidTests := true, laidLooks := .later }
def JsonvalueSpacesCardSaid : Prop := Claim7.holds Tryz.pinned (.plain (OpenSpec.ofChange jsonvalueSpacesSpec)) jsonvalueSpacesCard

/-- THE TIED CARD OF 'feedvaultlaw12.JsonwriteRoundTrip'. -/
def jsonwriteRoundTripCard : Claim7 := { stood := { row := jsonwriteRoundTripRow, standIns := [], harness := (true, "d255582f34630749bb1371ee1dd7df4afb6a89bc07ed69f6b4b5ed96c5dbebac"), looks := true }, kinds := [], alts := [], laidByText := true, laidKinds := [.data, .data, .data, .data, .sentinel, .sentinel, .data, .pinned], laidTests := true, laidLooks := .later }
def JsonwriteRoundTripCardSaid : Prop := Claim7.holds Tryz.pinned (.plain (OpenSpec.ofChange jsonwriteRoundTripSpec)) jsonwriteRoundTripCard

/-- THE SECOND FORM's CARD OF 'feedvaultlaw11.JsonvalueMatchesReference'. -/
def jsonvalueMatchesReferenceUptoCard : Claim7 := { stood := { row := jsonvalueMatchesReferenceUptoRow, standIns := [], harness := (true, "d255582f34630749bb1371ee1dd7df4afb6a89bc07ed69f6b4b5ed96c5dbebac"), looks := true }, kinds := [], alts := [], laidByText := true, laidKinds := [.data, .data, .data, .data, .sentinel, .sentinel, .data, .pinned], laidTests := true, laidLooks := .later }
def JsonvalueMatchesReferenceUptoCardSaid : Prop := Claim7.holds Tryz.pinned (.plain (OpenSpec.upto jsonvalueMatchesReferenceSpec)) jsonvalueMatchesReferenceUptoCard

/-- THE SECOND FORM's CARD OF 'feedvaultlaw11.JsonvalueSpaces'. -/
def jsonvalueSpacesUptoCard : Claim7 := { stood := { row := jsonvalueSpacesUptoRow, standIns := [], harness := (true, "d255582f34630749bb1371ee1dd7df4afb6a89bc07ed69f6b4b5ed96c5dbebac"), looks := true }, kinds := [], alts := [], laidByText := true, laidKinds := [.data, .data, .data, .data, .sentinel, .sentinel, .data, .pinned], laidTests := true, laidLooks := .later }
def JsonvalueSpacesUptoCardSaid : Prop := Claim7.holds Tryz.pinned (.plain (OpenSpec.upto jsonvalueSpacesSpec)) jsonvalueSpacesUptoCard

/-- THE SECOND FORM's CARD OF 'feedvaultlaw12.JsonwriteRoundTrip'. -/
def jsonwriteRoundTripUptoCard : Claim7 := { stood := { row := jsonwriteRoundTripUptoRow, standIns := [], harness := (true, "d255582f34630749bb1371ee1dd7df4afb6a89bc07ed69f6b4b5ed96c5dbebac"), looks := true }, kinds := [], alts := [], laidByText := true, laidKinds := [.data, .data, .data, .data, .sentinel, .sentinel, .data, .pinned], laidTests := true, laidLooks := .later }
def JsonwriteRoundTripUptoCardSaid : Prop := Claim7.holds Tryz.pinned (.plain (OpenSpec.upto jsonwriteRoundTripSpec)) jsonwriteRoundTripUptoCard
end Rows
end Go.Proofs.YthlppbpccldikaaGreatDoor
