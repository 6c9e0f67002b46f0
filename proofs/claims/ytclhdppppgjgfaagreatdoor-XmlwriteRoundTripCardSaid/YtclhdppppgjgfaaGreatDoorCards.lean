/-
  DERIVED. GIVEN WITH THE SEED: THE CARDS: each row of YtclhdppppgjgfaaGreatDoorRows.lean that lists a variable, with what it lists TIED to the program's text (the seventh form; the later family's looks); each row that meets fmt, with fmt's text TOLD by the authors' own Lean function (tested against real Go, not proved from fmt's source: count such statements apart). THE CARD IS WHAT COUNTS. Prove the row's statement (the work); the ties are given (YtclhdppppgjgfaaGreatDoorTie.lean); close each card by the builder's one call (the guide's Derived/Test/ToyasCard.lean, 'card_holds'). Laid BY PROGRAM, IN A SANDBOX (cutbox-door.mjs). By AI agents, Wed Nov 11 2026. No macro, syntax, notation, axiom, sorry.
-/
import Derived.Test.YtclhdppppgjgfaaGreatDoorRows
import GoSem.ClaimSeven
namespace Go.Proofs.YtclhdppppgjgfaaGreatDoor
namespace Rows

/-- THE TIED CARD OF 'feedvaultlaw07.XmltreeMatchesReference'. -/
def xmltreeMatchesReferenceCard : Claim7 := { stood := { row := xmltreeMatchesReferenceRow, standIns := [], harness := (true, "81d036bac46c145231de31d30470a94a9edcbc50526b9edba64f73b1eb80a9e1"), looks := true }, kinds := [], alts := [], laidByText := true, laidKinds := [.data, .data, .data, .pinned], laidTests := true, laidLooks := .later }
def XmltreeMatchesReferenceCardSaid : Prop := Claim7.holds Tryz.pinned (.plain (OpenSpec.ofChange xmltreeMatchesReferenceSpec)) xmltreeMatchesReferenceCard

/-- THE TIED CARD OF 'feedvaultlaw07.XmltreeFunctions'. -/
def xmltreeFunctionsCard : Claim7 := { stood := { row := xmltreeFunctionsRow, standIns := [], harness := (true, "81d036bac46c145231de31d30470a94a9edcbc50526b9edba64f73b1eb80a9e1"), looks := true }, kinds := [], alts := [], laidByText := true, laidKinds := [.data, .data, .data, .pinned], laidTests := true, laidLooks := .later }
def XmltreeFunctionsCardSaid : Prop := Claim7.holds Tryz.pinned (.plain (OpenSpec.ofChange xmltreeFunctionsSpec)) xmltreeFunctionsCard

/-- THE TIED CARD OF 'feedvaultlaw07.XmltreeIsNormal'. -/
def xmltreeIsNormalCard : Claim7 := { stood := { row := xmltreeIsNormalRow, standIns := [], harness := (true, "81d036bac46c145231de31d30470a94a9edcbc50526b9edba64f73b1eb80a9e1"), looks := true }, kinds := [], alts := [], laidByText := true, laidKinds := [.data, .data, .data, .pinned], laidTests := true, laidLooks := .later }
def XmltreeIsNormalCardSaid : Prop := Claim7.holds Tryz.pinned (.plain (OpenSpec.ofChange xmltreeIsNormalSpec)) xmltreeIsNormalCard

/-- THE TIED CARD OF 'feedvaultlaw07.XmltreeIsolated'. -/
def xmltreeIsolatedCard : Claim7 := { stood := { row := xmltreeIsolatedRow, standIns := [], harness := (true, "81d036bac46c145231de31d30470a94a9edcbc50526b9edba64f73b1eb80a9e1"), looks := true }, kinds := [], alts := [], laidByText := true, laidKinds := [.data, .data, .data, .pinned], laidTests := true, laidLooks := .later }
def XmltreeIsolatedCardSaid : Prop := Claim7.holds Tryz.pinned (.plain (OpenSpec.ofChange xmltreeIsolatedSpec)) xmltreeIsolatedCard

/-- THE TIED CARD OF 'feedvaultlaw07.XmltreeWraps'. -/
def xmltreeWrapsCard : Claim7 := { stood := { row := xmltreeWrapsRow, standIns := [], harness := (true, "81d036bac46c145231de31d30470a94a9edcbc50526b9edba64f73b1eb80a9e1"), looks := true }, kinds := [], alts := [], laidByText := true, laidKinds := [.data, .data, .data, .pinned], laidTests := true, laidLooks := .later }
def XmltreeWrapsCardSaid : Prop := Claim7.holds Tryz.pinned (.plain (OpenSpec.ofChange xmltreeWrapsSpec)) xmltreeWrapsCard

/-- THE TIED CARD OF 'feedvaultlaw07.XmltreeDepth'. -/
def xmltreeDepthCard : Claim7 := { stood := { row := xmltreeDepthRow, standIns := [], harness := (true, "81d036bac46c145231de31d30470a94a9edcbc50526b9edba64f73b1eb80a9e1"), looks := true }, kinds := [], alts := [], laidByText := true, laidKinds := [.data, .data, .data, .pinned], laidTests := true, laidLooks := .later }
def XmltreeDepthCardSaid : Prop := Claim7.holds Tryz.pinned (.plain (OpenSpec.ofChange xmltreeDepthSpec)) xmltreeDepthCard

/-- THE TIED CARD OF 'feedvaultlaw09.XmlwriteRoundTrip'. -/
def xmlwriteRoundTripCard : Claim7 := { stood := { row := xmlwriteRoundTripRow, standIns := [], harness := (true, "81d036bac46c145231de31d30470a94a9edcbc50526b9edba64f73b1eb80a9e1"), looks := true }, kinds := [], alts := [], laidByText := true, laidKinds := [.data, .data, .data, .pinned], laidTests := true, laidLooks := .later }
def XmlwriteRoundTripCardSaid : Prop := Claim7.holds Tryz.pinned (.plain (OpenSpec.ofChange xmlwriteRoundTripSpec)) xmlwriteRoundTripCard

/-- THE TIED CARD OF 'feedvaultlaw09.XmlwriteParsed'. -/
def xmlwriteParsedCard : Claim7 := { stood := { row := xmlwriteParsedRow, standIns := [], harness := (true, "81d036bac46c145231de31d30470a94a9edcbc50526b9edba64f73b1eb80a9e1"), looks := true }, kinds := [], alts := [], laidByText := true, laidKinds := [.data, .data, .data, .pinned], laidTests := true, laidLooks := .later }
def XmlwriteParsedCardSaid : Prop := Claim7.holds Tryz.pinned (.plain (OpenSpec.ofChange xmlwriteParsedSpec)) xmlwriteParsedCard

/-- THE SECOND FORM's CARD OF 'feedvaultlaw07.XmltreeMatchesReference'. -/
def xmltreeMatchesReferenceUptoCard : Claim7 := { stood := { row := xmltreeMatchesReferenceUptoRow, standIns := [], harness := (true, "81d036bac46c145231de31d30470a94a9edcbc50526b9edba64f73b1eb80a9e1"), looks := true }, kinds := [], alts := [], laidByText := true, laidKinds := [.data, .data, .data, .pinned], laidTests := true, laidLooks := .later }
def XmltreeMatchesReferenceUptoCardSaid : Prop := Claim7.holds Tryz.pinned (.plain (OpenSpec.upto xmltreeMatchesReferenceSpec)) xmltreeMatchesReferenceUptoCard

/-- THE SECOND FORM's CARD OF 'feedvaultlaw07.XmltreeFunctions'. -/
def xmltreeFunctionsUptoCard : Claim7 := { stood := { row := xmltreeFunctionsUptoRow, standIns := [], harness := (true, "81d036bac46c145231de31d30470a94a9edcbc50526b9edba64f73b1eb80a9e1"), looks := true }, kinds := [], alts := [], laidByText := true, laidKinds := [.data, .data, .data, .pinned], laidTests := true, laidLooks := .later }
def XmltreeFunctionsUptoCardSaid : Prop := Claim7.holds Tryz.pinned (.plain (OpenSpec.upto xmltreeFunctionsSpec)) xmltreeFunctionsUptoCard

/-- THE SECOND FORM's CARD OF 'feedvaultlaw07.XmltreeIsNormal'. -/
def xmltreeIsNormalUptoCard : Claim7 := { stood := { row := xmltreeIsNormalUptoRow, standIns := [], harness := (true, "81d036bac46c145231de31d30470a94a9edcbc50526b9edba64f73b1eb80a9e1"), looks := true }, kinds := [], alts := [], laidByText := true, laidKinds := [.data, .data, .data, .pinned], laidTests := true, laidLooks := .later }
def XmltreeIsNormalUptoCardSaid : Prop := Claim7.holds Tryz.pinned (.plain (OpenSpec.upto xmltreeIsNormalSpec)) xmltreeIsNormalUptoCard

/-- THE SECOND FORM's CARD OF 'feedvaultlaw07.XmltreeIsolated'. -/
def xmltreeIsolatedUptoCard : Claim7 := { stood := { row := xmltreeIsolatedUptoRow, standIns := [], harness := (true, "81d036bac46c145231de31d30470a94a9edcbc50526b9edba64f73b1eb80a9e1"), looks := true }, kinds := [], alts := [], laidByText := true, laidKinds := [.data, .data, .data, .pinned], laidTests := true, laidLooks := .later }
def XmltreeIsolatedUptoCardSaid : Prop := Claim7.holds Tryz.pinned (.plain (OpenSpec.upto xmltreeIsolatedSpec)) xmltreeIsolatedUptoCard

/-- THE SECOND FORM's CARD OF 'feedvaultlaw07.XmltreeWraps'. -/
def xmltreeWrapsUptoCard : Claim7 := { stood := { row := xmltreeWrapsUptoRow, standIns := [], harness := (true, "81d036bac46c145231de31d30470a94a9edcbc50526b9edba64f73b1eb80a9e1"), looks := true }, kinds := [], alts := [], laidByText := true, laidKinds := [.data, .data, .data, .pinned], laidTests := true, laidLooks := .later }
def XmltreeWrapsUptoCardSaid : Prop := Claim7.holds Tryz.pinned (.plain (OpenSpec.upto xmltreeWrapsSpec)) xmltreeWrapsUptoCard

/-- THE SECOND FORM's CARD OF 'feedvaultlaw07.XmltreeDepth'. -/
def xmltreeDepthUptoCard : Claim7 := { stood := { row := xmltreeDepthUptoRow, standIns := [], harness := (true, "81d036bac46c145231de31d30470a94a9edcbc50526b9edba64f73b1eb80a9e1"), looks := true }, kinds := [], alts := [], laidByText := true, laidKinds := [.data, .data, .data, .pinned], laidTests := true, laidLooks := .later }
def XmltreeDepthUptoCardSaid : Prop := Claim7.holds Tryz.pinned (.plain (OpenSpec.upto xmltreeDepthSpec)) xmltreeDepthUptoCard

/-- THE SECOND FORM's CARD OF 'feedvaultlaw09.XmlwriteRoundTrip'. -/
def xmlwriteRoundTripUptoCard : Claim7 := { stood := { row := xmlwriteRoundTripUptoRow, standIns := [], harness := (true, "81d036bac46c145231de31d30470a94a9edcbc50526b9edba64f73b1eb80a9e1"), looks := true }, kinds := [], alts := [], laidByText := true, laidKinds := [.data, .data, .data, .pinned], laidTests := true, laidLooks := .later }
def XmlwriteRoundTripUptoCardSaid : Prop := Claim7.holds Tryz.pinned (.plain (OpenSpec.upto xmlwriteRoundTripSpec)) xmlwriteRoundTripUptoCard

/-- THE SECOND FORM's CARD OF 'feedvaultlaw09.XmlwriteParsed'. -/
def xmlwriteParsedUptoCard : Claim7 := { stood := { row := xmlwriteParsedUptoRow, standIns := [], harness := (true, "81d036bac46c145231de31d30470a94a9edcbc50526b9edba64f73b1eb80a9e1"), looks := true }, kinds := [], alts := [], laidByText := true, laidKinds := [.data, .data, .data, .pinned], laidTests := true, laidLooks := .later }
def XmlwriteParsedUptoCardSaid : Prop := Claim7.holds Tryz.pinned (.plain (OpenSpec.upto xmlwriteParsedSpec)) xmlwriteParsedUptoCard
end Rows
end Go.Proofs.YtclhdppppgjgfaaGreatDoor
