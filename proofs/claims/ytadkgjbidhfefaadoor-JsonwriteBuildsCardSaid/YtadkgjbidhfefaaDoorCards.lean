/-
  DERIVED. GIVEN WITH THE SEED: THE CARDS: each row of YtadkgjbidhfefaaDoorRows.lean that lists a variable, with what it lists TIED to the program's text (the seventh form; the later family's looks); each row that meets fmt, with fmt's text TOLD by the authors' own Lean function (tested against real Go, not proved from fmt's source: count such statements apart). THE CARD IS WHAT COUNTS. Prove the row's statement (the work); the ties are given (YtadkgjbidhfefaaDoorTie.lean); close each card by the builder's one call (the guide's Derived/Test/ToyasCard.lean, 'card_holds'). Laid BY PROGRAM, IN A SANDBOX (cutbox-door.mjs). By AI agents, Wed Nov 11 2026. No macro, syntax, notation, axiom, sorry.
-/
import Derived.Test.YtadkgjbidhfefaaDoorRows
import GoSem.ClaimSeven
namespace Go.Proofs.YtadkgjbidhfefaaDoor
namespace Rows

/-- THE TIED CARD OF 'feedvaultlaw12.JsonwriteMatchesReference'. -/
def jsonwriteMatchesReferenceCard : Claim7 := { stood := { row := jsonwriteMatchesReferenceRow, standIns := [], harness := (true, "39cb17ad70a1f3ef44fa8c6c52735f5dccea0df8c486028337d12a029fb88bd2"), looks := false }, kinds := [], alts := [], laidByText := true, laidKinds := [.data, .data, .data, .data, .data, .pinned], laidTests := true, laidLooks := .later }
def JsonwriteMatchesReferenceCardSaid : Prop := Claim7.holds Tryd.pinned (.plain (OpenSpec.ofChange jsonwriteMatchesReferenceSpec)) jsonwriteMatchesReferenceCard

/-- THE TIED CARD OF 'feedvaultlaw12.JsonwriteBuilds'. -/
def jsonwriteBuildsCard : Claim7 := { stood := { row := jsonwriteBuildsRow, standIns := [], harness := (true, "39cb17ad70a1f3ef44fa8c6c52735f5dccea0df8c486028337d12a029fb88bd2"), looks := false }, kinds := [], alts := [], laidByText := true, laidKinds := [.data, .data, .data, .data, .data, .pinned], laidTests := true, laidLooks := .later }
def JsonwriteBuildsCardSaid : Prop := Claim7.holds Tryd.pinned (.plain (OpenSpec.ofChange jsonwriteBuildsSpec)) jsonwriteBuildsCard

/-- THE TIED CARD OF 'feedvaultlaw12.JsonwriteIsInjective'. -/
def jsonwriteIsInjectiveCard : Claim7 := { stood := { row := jsonwriteIsInjectiveRow, standIns := [], harness := (true, "39cb17ad70a1f3ef44fa8c6c52735f5dccea0df8c486028337d12a029fb88bd2"), looks := false }, kinds := [], alts := [], laidByText := true, laidKinds := [.data, .data, .data, .data, .data, .pinned], laidTests := true, laidLooks := .later }
def JsonwriteIsInjectiveCardSaid : Prop := Claim7.holds Tryd.pinned (.plain (OpenSpec.ofChange jsonwriteIsInjectiveSpec)) jsonwriteIsInjectiveCard

/-- THE TIED CARD OF 'feedvaultlaw12.JsonwriteDepth'. -/
def jsonwriteDepthCard : Claim7 := { stood := { row := jsonwriteDepthRow, standIns := [], harness := (true, "39cb17ad70a1f3ef44fa8c6c52735f5dccea0df8c486028337d12a029fb88bd2"), looks := false }, kinds := [], alts := [], laidByText := true, laidKinds := [.data, .data, .data, .data, .data, .pinned], laidTests := true, laidLooks := .later }
def JsonwriteDepthCardSaid : Prop := Claim7.holds Tryd.pinned (.plain (OpenSpec.ofChange jsonwriteDepthSpec)) jsonwriteDepthCard

/-- THE TIED CARD OF 'feedvaultlaw13.ModelChecksMatchReference'. -/
def modelChecksMatchReferenceCard : Claim7 := { stood := { row := modelChecksMatchReferenceRow, standIns := [], harness := (true, "39cb17ad70a1f3ef44fa8c6c52735f5dccea0df8c486028337d12a029fb88bd2"), looks := false }, kinds := [], alts := [], laidByText := true, laidKinds := [.data, .data, .data, .data, .data, .pinned], laidTests := true, laidLooks := .later }
def ModelChecksMatchReferenceCardSaid : Prop := Claim7.holds Tryd.pinned (.plain (OpenSpec.ofChange modelChecksMatchReferenceSpec)) modelChecksMatchReferenceCard

/-- THE TIED CARD OF 'feedvaultlaw13.ModelOrders'. -/
def modelOrdersCard : Claim7 := { stood := { row := modelOrdersRow, standIns := [], harness := (true, "39cb17ad70a1f3ef44fa8c6c52735f5dccea0df8c486028337d12a029fb88bd2"), looks := false }, kinds := [], alts := [], laidByText := true, laidKinds := [.data, .data, .data, .data, .data, .pinned], laidTests := true, laidLooks := .later }
def ModelOrdersCardSaid : Prop := Claim7.holds Tryd.pinned (.plain (OpenSpec.ofChange modelOrdersSpec)) modelOrdersCard

/-- THE TIED CARD OF 'feedvaultlaw13.ModelLaterEntry'. -/
def modelLaterEntryCard : Claim7 := { stood := { row := modelLaterEntryRow, standIns := [], harness := (true, "39cb17ad70a1f3ef44fa8c6c52735f5dccea0df8c486028337d12a029fb88bd2"), looks := false }, kinds := [], alts := [], laidByText := true, laidKinds := [.data, .data, .data, .data, .data, .pinned], laidTests := true, laidLooks := .later }
def ModelLaterEntryCardSaid : Prop := Claim7.holds Tryd.pinned (.plain (OpenSpec.ofChange modelLaterEntrySpec)) modelLaterEntryCard

/-- THE TIED CARD OF 'feedvaultlaw13.ModelKeys'. -/
def modelKeysCard : Claim7 := { stood := { row := modelKeysRow, standIns := [], harness := (true, "39cb17ad70a1f3ef44fa8c6c52735f5dccea0df8c486028337d12a029fb88bd2"), looks := false }, kinds := [], alts := [], laidByText := true, laidKinds := [.data, .data, .data, .data, .data, .pinned], laidTests := true, laidLooks := .later }
def ModelKeysCardSaid : Prop := Claim7.holds Tryd.pinned (.plain (OpenSpec.ofChange modelKeysSpec)) modelKeysCard

/-- THE TIED CARD OF 'feedvaultlaw13.ModelComparesMatchReference'. -/
def modelComparesMatchReferenceCard : Claim7 := { stood := { row := modelComparesMatchReferenceRow, standIns := [], harness := (true, "39cb17ad70a1f3ef44fa8c6c52735f5dccea0df8c486028337d12a029fb88bd2"), looks := false }, kinds := [], alts := [], laidByText := true, laidKinds := [.data, .data, .data, .data, .data, .pinned], laidTests := true, laidLooks := .later }
def ModelComparesMatchReferenceCardSaid : Prop := Claim7.holds Tryd.pinned (.plain (OpenSpec.ofChange modelComparesMatchReferenceSpec)) modelComparesMatchReferenceCard

/-- THE SECOND FORM's CARD OF 'feedvaultlaw12.JsonwriteMatchesReference'. -/
def jsonwriteMatchesReferenceUptoCard : Claim7 := { stood := { row := jsonwriteMatchesReferenceUptoRow, standIns := [], harness := (true, "39cb17ad70a1f3ef44fa8c6c52735f5dccea0df8c486028337d12a029fb88bd2"), looks := false }, kinds := [], alts := [], laidByText := true, laidKinds := [.data, .data, .data, .data, .data, .pinned], laidTests := true, laidLooks := .later }
def JsonwriteMatchesReferenceUptoCardSaid : Prop := Claim7.holds Tryd.pinned (.plain (OpenSpec.upto jsonwriteMatchesReferenceSpec)) jsonwriteMatchesReferenceUptoCard

/-- THE SECOND FORM's CARD OF 'feedvaultlaw12.JsonwriteBuilds'. -/
def jsonwriteBuildsUptoCard : Claim7 := { stood := { row := jsonwriteBuildsUptoRow, standIns := [], harness := (true, "39cb17ad70a1f3ef44fa8c6c52735f5dccea0df8c486028337d12a029fb88bd2"), looks := false }, kinds := [], alts := [], laidByText := true, laidKinds := [.data, .data, .data, .data, .data, .pinned], laidTests := true, laidLooks := .later }
def JsonwriteBuildsUptoCardSaid : Prop := Claim7.holds Tryd.pinned (.plain (OpenSpec.upto jsonwriteBuildsSpec)) jsonwriteBuildsUptoCard

/-- THE SECOND FORM's CARD OF 'feedvaultlaw12.JsonwriteIsInjective'. -/
def jsonwriteIsInjectiveUptoCard : Claim7 := { stood := { row := jsonwriteIsInjectiveUptoRow, standIns := [], harness := (true, "39cb17ad70a1f3ef44fa8c6c52735f5dccea0df8c486028337d12a029fb88bd2"), looks := false }, kinds := [], alts := [], laidByText := true, laidKinds := [.data, .data, .data, .data, .data, .pinned], laidTests := true, laidLooks := .later }
def JsonwriteIsInjectiveUptoCardSaid : Prop := Claim7.holds Tryd.pinned (.plain (OpenSpec.upto jsonwriteIsInjectiveSpec)) jsonwriteIsInjectiveUptoCard

/-- THE SECOND FORM's CARD OF 'feedvaultlaw12.JsonwriteDepth'. -/
def jsonwriteDepthUptoCard : Claim7 := { stood := { row := jsonwriteDepthUptoRow, standIns := [], harness := (true, "39cb17ad70a1f3ef44fa8c6c52735f5dccea0df8c486028337d12a029fb88bd2"), looks := false }, kinds := [], alts := [], laidByText := true, laidKinds := [.data, .data, .data, .data, .data, .pinned], laidTests := true, laidLooks := .later }
def JsonwriteDepthUptoCardSaid : Prop := Claim7.holds Tryd.pinned (.plain (OpenSpec.upto jsonwriteDepthSpec)) jsonwriteDepthUptoCard

/-- THE SECOND FORM's CARD OF 'feedvaultlaw13.ModelChecksMatchReference'. -/
def modelChecksMatchReferenceUptoCard : Claim7 := { stood := { row := modelChecksMatchReferenceUptoRow, standIns := [], harness := (true, "39cb17ad70a1f3ef44fa8c6c52735f5dccea0df8c486028337d12a029fb88bd2"), looks := false }, kinds := [], alts := [], laidByText := true, laidKinds := [.data, .data, .data, .data, .data, .pinned], laidTests := true, laidLooks := .later }
def ModelChecksMatchReferenceUptoCardSaid : Prop := Claim7.holds Tryd.pinned (.plain (OpenSpec.upto modelChecksMatchReferenceSpec)) modelChecksMatchReferenceUptoCard

/-- THE SECOND FORM's CARD OF 'feedvaultlaw13.ModelOrders'. -/
def modelOrdersUptoCard : Claim7 := { stood := { row := modelOrdersUptoRow, standIns := [], harness := (true, "39cb17ad70a1f3ef44fa8c6c52735f5dccea0df8c486028337d12a029fb88bd2"), looks := false }, kinds := [], alts := [], laidByText := true, laidKinds := [.data, .data, .data, .data, .data, .pinned], laidTests := true, laidLooks := .later }
def ModelOrdersUptoCardSaid : Prop := Claim7.holds Tryd.pinned (.plain (OpenSpec.upto modelOrdersSpec)) modelOrdersUptoCard

/-- THE SECOND FORM's CARD OF 'feedvaultlaw13.ModelLaterEntry'. -/
def modelLaterEntryUptoCard : Claim7 := { stood := { row := modelLaterEntryUptoRow, standIns := [], harness := (true, "39cb17ad70a1f3ef44fa8c6c52735f5dccea0df8c486028337d12a029fb88bd2"), looks := false }, kinds := [], alts := [], laidByText := true, laidKinds := [.data, .data, .data, .data, .data, .pinned], laidTests := true, laidLooks := .later }
def ModelLaterEntryUptoCardSaid : Prop := Claim7.holds Tryd.pinned (.plain (OpenSpec.upto modelLaterEntrySpec)) modelLaterEntryUptoCard

/-- THE SECOND FORM's CARD OF 'feedvaultlaw13.ModelKeys'. -/
def modelKeysUptoCard : Claim7 := { stood := { row := modelKeysUptoRow, standIns := [], harness := (true, "39cb17ad70a1f3ef44fa8c6c52735f5dccea0df8c486028337d12a029fb88bd2"), looks := false }, kinds := [], alts := [], laidByText := true, laidKinds := [.data, .data, .data, .data, .data, .pinned], laidTests := true, laidLooks := .later }
def ModelKeysUptoCardSaid : Prop := Claim7.holds Tryd.pinned (.plain (OpenSpec.upto modelKeysSpec)) modelKeysUptoCard

/-- THE SECOND FORM's CARD OF 'feedvaultlaw13.ModelComparesMatchReference'. -/
def modelComparesMatchReferenceUptoCard : Claim7 := { stood := { row := modelComparesMatchReferenceUptoRow, standIns := [], harness := (true, "39cb17ad70a1f3ef44fa8c6c52735f5dccea0df8c486028337d12a029fb88bd2"), looks := false }, kinds := [], alts := [], laidByText := true, laidKinds := [.data, .data, .data, .data, .data, .pinned], laidTests := true, laidLooks := .later }
def ModelComparesMatchReferenceUptoCardSaid : Prop := Claim7.holds Tryd.pinned (.plain (OpenSpec.upto modelComparesMatchReferenceSpec)) modelComparesMatchReferenceUptoCard
end Rows
end Go.Proofs.YtadkgjbidhfefaaDoor
