/-
  DERIVED. GIVEN WITH THE SEED: THE CARDS: each row of YthbfahbjfioghaaGreatDoorRows.lean that lists a variable, with what it lists TIED to the program's text (the seventh form; the later family's looks); each row that meets fmt, with fmt's text TOLD by the authors' own Lean function (tested against real Go, not proved from fmt's source: count such statements apart). THE CARD IS WHAT COUNTS. Prove the row's statement (the work); the ties are given (YthbfahbjfioghaaGreatDoorTie.lean); close each card by the builder's one call (the guide's Derived/Test/ToyasCard.lean, 'card_holds'). Laid BY PROGRAM, IN A SANDBOX (cutbox-door.mjs). By AI agents, Wed Nov 11 2026. No macro, syntax, notation, axiom, sorry.
-/
import Derived.Test.YthbfahbjfioghaaGreatDoorRows
import GoSem.ClaimSeven
namespace Go.Proofs.YthbfahbjfioghaaGreatDoor
namespace Rows

/-- THE TIED CARD OF 'feedvaultlaw06.XmltokenMatchesReference'. -/
def xmltokenMatchesReferenceCard : Claim7 := { stood := { row := xmltokenMatchesReferenceRow, standIns := [], harness := (true, "e7a260995b36ec69bedf5221649f9b1407f4443f62ad0854f0b8414fcae654c2"), looks := true }, kinds := [], alts := [], laidByText := true, laidKinds := [.data, .data, .data, .pinned], laidTests := true, laidLooks := .later }
def XmltokenMatchesReferenceCardSaid : Prop := Claim7.holds Tryz.pinned (.plain (OpenSpec.ofChange xmltokenMatchesReferenceSpec)) xmltokenMatchesReferenceCard

/-- THE TIED CARD OF 'feedvaultlaw06.XmltokenOffsets'. -/
def xmltokenOffsetsCard : Claim7 := { stood := { row := xmltokenOffsetsRow, standIns := [], harness := (true, "e7a260995b36ec69bedf5221649f9b1407f4443f62ad0854f0b8414fcae654c2"), looks := true }, kinds := [], alts := [], laidByText := true, laidKinds := [.data, .data, .data, .pinned], laidTests := true, laidLooks := .later }
def XmltokenOffsetsCardSaid : Prop := Claim7.holds Tryz.pinned (.plain (OpenSpec.ofChange xmltokenOffsetsSpec)) xmltokenOffsetsCard

/-- THE TIED CARD OF 'feedvaultlaw06.XmltokenText'. -/
def xmltokenTextCard : Claim7 := { stood := { row := xmltokenTextRow, standIns := [], harness := (true, "e7a260995b36ec69bedf5221649f9b1407f4443f62ad0854f0b8414fcae654c2"), looks := true }, kinds := [], alts := [], laidByText := true, laidKinds := [.data, .data, .data, .pinned], laidTests := true, laidLooks := .later }
def XmltokenTextCardSaid : Prop := Claim7.holds Tryz.pinned (.plain (OpenSpec.ofChange xmltokenTextSpec)) xmltokenTextCard

/-- THE TIED CARD OF 'feedvaultlaw06.XmltokenValues'. -/
def xmltokenValuesCard : Claim7 := { stood := { row := xmltokenValuesRow, standIns := [], harness := (true, "e7a260995b36ec69bedf5221649f9b1407f4443f62ad0854f0b8414fcae654c2"), looks := true }, kinds := [], alts := [], laidByText := true, laidKinds := [.data, .data, .data, .pinned], laidTests := true, laidLooks := .later }
def XmltokenValuesCardSaid : Prop := Claim7.holds Tryz.pinned (.plain (OpenSpec.ofChange xmltokenValuesSpec)) xmltokenValuesCard

/-- THE TIED CARD OF 'feedvaultlaw06.XmltokenConcatenation'. -/
def xmltokenConcatenationCard : Claim7 := { stood := { row := xmltokenConcatenationRow, standIns := [], harness := (true, "e7a260995b36ec69bedf5221649f9b1407f4443f62ad0854f0b8414fcae654c2"), looks := true }, kinds := [], alts := [], laidByText := true, laidKinds := [.data, .data, .data, .pinned], laidTests := true, laidLooks := .later }
def XmltokenConcatenationCardSaid : Prop := Claim7.holds Tryz.pinned (.plain (OpenSpec.ofChange xmltokenConcatenationSpec)) xmltokenConcatenationCard

/-- THE TIED CARD OF 'feedvaultlaw07.XmltreeMatchesReference'. -/
def xmltreeMatchesReferenceCard : Claim7 := { stood := { row := xmltreeMatchesReferenceRow, standIns := [], harness := (true, "e7a260995b36ec69bedf5221649f9b1407f4443f62ad0854f0b8414fcae654c2"), looks := true }, kinds := [], alts := [], laidByText := true, laidKinds := [.data, .data, .data, .pinned], laidTests := true, laidLooks := .later }
def XmltreeMatchesReferenceCardSaid : Prop := Claim7.holds Tryz.pinned (.plain (OpenSpec.ofChange xmltreeMatchesReferenceSpec)) xmltreeMatchesReferenceCard

/-- THE TIED CARD OF 'feedvaultlaw07.XmltreeFunctions'. -/
def xmltreeFunctionsCard : Claim7 := { stood := { row := xmltreeFunctionsRow, standIns := [], harness := (true, "e7a260995b36ec69bedf5221649f9b1407f4443f62ad0854f0b8414fcae654c2"), looks := true }, kinds := [], alts := [], laidByText := true, laidKinds := [.data, .data, .data, .pinned], laidTests := true, laidLooks := .later }
def XmltreeFunctionsCardSaid : Prop := Claim7.holds Tryz.pinned (.plain (OpenSpec.ofChange xmltreeFunctionsSpec)) xmltreeFunctionsCard

/-- THE TIED CARD OF 'feedvaultlaw07.XmltreeIsNormal'. -/
def xmltreeIsNormalCard : Claim7 := { stood := { row := xmltreeIsNormalRow, standIns := [], harness := (true, "e7a260995b36ec69bedf5221649f9b1407f4443f62ad0854f0b8414fcae654c2"), looks := true }, kinds := [], alts := [], laidByText := true, laidKinds := [.data, .data, .data, .pinned], laidTests := true, laidLooks := .later }
def XmltreeIsNormalCardSaid : Prop := Claim7.holds Tryz.pinned (.plain (OpenSpec.ofChange xmltreeIsNormalSpec)) xmltreeIsNormalCard

/-- THE TIED CARD OF 'feedvaultlaw07.XmltreeIsolated'. -/
def xmltreeIsolatedCard : Claim7 := { stood := { row := xmltreeIsolatedRow, standIns := [], harness := (true, "e7a260995b36ec69bedf5221649f9b1407f4443f62ad0854f0b8414fcae654c2"), looks := true }, kinds := [], alts := [], laidByText := true, laidKinds := [.data, .data, .data, .pinned], laidTests := true, laidLooks := .later }
def XmltreeIsolatedCardSaid : Prop := Claim7.holds Tryz.pinned (.plain (OpenSpec.ofChange xmltreeIsolatedSpec)) xmltreeIsolatedCard

/-- THE TIED CARD OF 'feedvaultlaw07.XmltreeWraps'. -/
def xmltreeWrapsCard : Claim7 := { stood := { row := xmltreeWrapsRow, standIns := [], harness := (true, "e7a260995b36ec69bedf5221649f9b1407f4443f62ad0854f0b8414fcae654c2"), looks := true }, kinds := [], alts := [], laidByText := true, laidKinds := [.data, .data, .data, .pinned], laidTests := true, laidLooks := .later }
def XmltreeWrapsCardSaid : Prop := Claim7.holds Tryz.pinned (.plain (OpenSpec.ofChange xmltreeWrapsSpec)) xmltreeWrapsCard

/-- THE TIED CARD OF 'feedvaultlaw07.XmltreeDepth'. -/
def xmltreeDepthCard : Claim7 := { stood := { row := xmltreeDepthRow, standIns := [], harness := (true, "e7a260995b36ec69bedf5221649f9b1407f4443f62ad0854f0b8414fcae654c2"), looks := true }, kinds := [], alts := [], laidByText := true, laidKinds := [.data, .data, .data, .pinned], laidTests := true, laidLooks := .later }
def XmltreeDepthCardSaid : Prop := Claim7.holds Tryz.pinned (.plain (OpenSpec.ofChange xmltreeDepthSpec)) xmltreeDepthCard

/-- THE SECOND FORM's CARD OF 'feedvaultlaw06.XmltokenMatchesReference'. -/
def xmltokenMatchesReferenceUptoCard : Claim7 := { stood := { row := xmltokenMatchesReferenceUptoRow, standIns := [], harness := (true, "e7a260995b36ec69bedf5221649f9b1407f4443f62ad0854f0b8414fcae654c2"), looks := true }, kinds := [], alts := [], laidByText := true, laidKinds := [.data, .data, .data, .pinned], laidTests := true, laidLooks := .later }
def XmltokenMatchesReferenceUptoCardSaid : Prop := Claim7.holds Tryz.pinned (.plain (OpenSpec.upto xmltokenMatchesReferenceSpec)) xmltokenMatchesReferenceUptoCard

/-- THE SECOND FORM's CARD OF 'feedvaultlaw06.XmltokenOffsets'. -/
def xmltokenOffsetsUptoCard : Claim7 := { stood := { row := xmltokenOffsetsUptoRow, standIns := [], harness := (true, "e7a260995b36ec69bedf5221649f9b1407f4443f62ad0854f0b8414fcae654c2"), looks := true }, kinds := [], alts := [], laidByText := true, laidKinds := [.data, .data, .data, .pinned], laidTests := true, laidLooks := .later }
def XmltokenOffsetsUptoCardSaid : Prop := Claim7.holds Tryz.pinned (.plain (OpenSpec.upto xmltokenOffsetsSpec)) xmltokenOffsetsUptoCard

/-- THE SECOND FORM's CARD OF 'feedvaultlaw06.XmltokenText'. -/
def xmltokenTextUptoCard : Claim7 := { stood := { row := xmltokenTextUptoRow, standIns := [], harness := (true, "e7a260995b36ec69bedf5221649f9b1407f4443f62ad0854f0b8414fcae654c2"), looks := true }, kinds := [], alts := [], laidByText := true, laidKinds := [.data, .data, .data, .pinned], laidTests := true, laidLooks := .later }
def XmltokenTextUptoCardSaid : Prop := Claim7.holds Tryz.pinned (.plain (OpenSpec.upto xmltokenTextSpec)) xmltokenTextUptoCard

/-- THE SECOND FORM's CARD OF 'feedvaultlaw06.XmltokenValues'. -/
def xmltokenValuesUptoCard : Claim7 := { stood := { row := xmltokenValuesUptoRow, standIns := [], harness := (true, "e7a260995b36ec69bedf5221649f9b1407f4443f62ad0854f0b8414fcae654c2"), looks := true }, kinds := [], alts := [], laidByText := true, laidKinds := [.data, .data, .data, .pinned], laidTests := true, laidLooks := .later }
def XmltokenValuesUptoCardSaid : Prop := Claim7.holds Tryz.pinned (.plain (OpenSpec.upto xmltokenValuesSpec)) xmltokenValuesUptoCard

/-- THE SECOND FORM's CARD OF 'feedvaultlaw06.XmltokenConcatenation'. -/
def xmltokenConcatenationUptoCard : Claim7 := { stood := { row := xmltokenConcatenationUptoRow, standIns := [], harness := (true, "e7a260995b36ec69bedf5221649f9b1407f4443f62ad0854f0b8414fcae654c2"), looks := true }, kinds := [], alts := [], laidByText := true, laidKinds := [.data, .data, .data, .pinned], laidTests := true, laidLooks := .later }
def XmltokenConcatenationUptoCardSaid : Prop := Claim7.holds Tryz.pinned (.plain (OpenSpec.upto xmltokenConcatenationSpec)) xmltokenConcatenationUptoCard

/-- THE SECOND FORM's CARD OF 'feedvaultlaw07.XmltreeMatchesReference'. -/
def xmltreeMatchesReferenceUptoCard : Claim7 := { stood := { row := xmltreeMatchesReferenceUptoRow, standIns := [], harness := (true, "e7a260995b36ec69bedf5221649f9b1407f4443f62ad0854f0b8414fcae654c2"), looks := true }, kinds := [], alts := [], laidByText := true, laidKinds := [.data, .data, .data, .pinned], laidTests := true, laidLooks := .later }
def XmltreeMatchesReferenceUptoCardSaid : Prop := Claim7.holds Tryz.pinned (.plain (OpenSpec.upto xmltreeMatchesReferenceSpec)) xmltreeMatchesReferenceUptoCard

/-- THE SECOND FORM's CARD OF 'feedvaultlaw07.XmltreeFunctions'. -/
def xmltreeFunctionsUptoCard : Claim7 := { stood := { row := xmltreeFunctionsUptoRow, standIns := [], harness := (true, "e7a260995b36ec69bedf5221649f9b1407f4443f62ad0854f0b8414fcae654c2"), looks := true }, kinds := [], alts := [], laidByText := true, laidKinds := [.data, .data, .data, .pinned], laidTests := true, laidLooks := .later }
def XmltreeFunctionsUptoCardSaid : Prop := Claim7.holds Tryz.pinned (.plain (OpenSpec.upto xmltreeFunctionsSpec)) xmltreeFunctionsUptoCard

/-- THE SECOND FORM's CARD OF 'feedvaultlaw07.XmltreeIsNormal'. -/
def xmltreeIsNormalUptoCard : Claim7 := { stood := { row := xmltreeIsNormalUptoRow, standIns := [], harness := (true, "e7a260995b36ec69bedf5221649f9b1407f4443f62ad0854f0b8414fcae654c2"), looks := true }, kinds := [], alts := [], laidByText := true, laidKinds := [.data, .data, .data, .pinned], laidTests := true, laidLooks := .later }
def XmltreeIsNormalUptoCardSaid : Prop := Claim7.holds Tryz.pinned (.plain (OpenSpec.upto xmltreeIsNormalSpec)) xmltreeIsNormalUptoCard

/-- THE SECOND FORM's CARD OF 'feedvaultlaw07.XmltreeIsolated'. -/
def xmltreeIsolatedUptoCard : Claim7 := { stood := { row := xmltreeIsolatedUptoRow, standIns := [], harness := (true, "e7a260995b36ec69bedf5221649f9b1407f4443f62ad0854f0b8414fcae654c2"), looks := true }, kinds := [], alts := [], laidByText := true, laidKinds := [.data, .data, .data, .pinned], laidTests := true, laidLooks := .later }
def XmltreeIsolatedUptoCardSaid : Prop := Claim7.holds Tryz.pinned (.plain (OpenSpec.upto xmltreeIsolatedSpec)) xmltreeIsolatedUptoCard

/-- THE SECOND FORM's CARD OF 'feedvaultlaw07.XmltreeWraps'. -/
def xmltreeWrapsUptoCard : Claim7 := { stood := { row := xmltreeWrapsUptoRow, standIns := [], harness := (true, "e7a260995b36ec69bedf5221649f9b1407f4443f62ad0854f0b8414fcae654c2"), looks := true }, kinds := [], alts := [], laidByText := true, laidKinds := [.data, .data, .data, .pinned], laidTests := true, laidLooks := .later }
def XmltreeWrapsUptoCardSaid : Prop := Claim7.holds Tryz.pinned (.plain (OpenSpec.upto xmltreeWrapsSpec)) xmltreeWrapsUptoCard

/-- THE SECOND FORM's CARD OF 'feedvaultlaw07.XmltreeDepth'. -/
def xmltreeDepthUptoCard : Claim7 := { stood := { row := xmltreeDepthUptoRow, standIns := [], harness := (true, "e7a260995b36ec69bedf5221649f9b1407f4443f62ad0854f0b8414fcae654c2"), looks := true }, kinds := [], alts := [], laidByText := true, laidKinds := [.data, .data, .data, .pinned], laidTests := true, laidLooks := .later }
def XmltreeDepthUptoCardSaid : Prop := Claim7.holds Tryz.pinned (.plain (OpenSpec.upto xmltreeDepthSpec)) xmltreeDepthUptoCard
end Rows
end Go.Proofs.YthbfahbjfioghaaGreatDoor
