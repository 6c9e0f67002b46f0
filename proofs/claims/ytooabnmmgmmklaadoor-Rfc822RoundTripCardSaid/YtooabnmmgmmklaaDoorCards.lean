/-
  DERIVED. GIVEN WITH THE SEED: THE CARDS: each row of YtooabnmmgmmklaaDoorRows.lean that lists a variable, with what it lists TIED to the program's text (the seventh form; the later family's looks); each row that meets fmt, with fmt's text TOLD by the authors' own Lean function (tested against real Go, not proved from fmt's source: count such statements apart). THE CARD IS WHAT COUNTS. Prove the row's statement (the work); the ties are given (YtooabnmmgmmklaaDoorTie.lean); close each card by the builder's one call (the guide's Derived/Test/ToyasCard.lean, 'card_holds'). Laid BY PROGRAM, IN A SANDBOX (cutbox-door.mjs). By AI agents, Wed Nov 11 2026. No macro, syntax, notation, axiom, sorry.
-/
import Derived.Test.YtooabnmmgmmklaaDoorRows
import GoSem.ClaimSeven
namespace Go.Proofs.YtooabnmmgmmklaaDoor
namespace Rows

/-- THE TIED CARD OF 'feedvaultlaw04.Rfc822FormatMatchesReference'. -/
def rfc822FormatMatchesReferenceCard : Claim7 := { stood := { row := rfc822FormatMatchesReferenceRow, standIns := [], harness := (true, "b012e6e03c5dcc9fc184fb2ba406caf04c79f47760fb2496e5adc36100c117b3"), looks := true }, kinds := [], alts := [], laidByText := true, laidKinds := [.data, .data, .data, .data, .sentinel, .sentinel, .data, .data, .pinned], laidTests := true, laidLooks := .later }
def Rfc822FormatMatchesReferenceCardSaid : Prop := Claim7.holds Tryd.pinned (.plain (OpenSpec.ofChange rfc822FormatMatchesReferenceSpec)) rfc822FormatMatchesReferenceCard

/-- THE TIED CARD OF 'feedvaultlaw04.Rfc822ParseMatchesReference'. -/
def rfc822ParseMatchesReferenceCard : Claim7 := { stood := { row := rfc822ParseMatchesReferenceRow, standIns := [], harness := (true, "b012e6e03c5dcc9fc184fb2ba406caf04c79f47760fb2496e5adc36100c117b3"), looks := true }, kinds := [], alts := [], laidByText := true, laidKinds := [.data, .data, .data, .data, .sentinel, .sentinel, .data, .data, .pinned], laidTests := true, laidLooks := .later }
def Rfc822ParseMatchesReferenceCardSaid : Prop := Claim7.holds Tryd.pinned (.plain (OpenSpec.ofChange rfc822ParseMatchesReferenceSpec)) rfc822ParseMatchesReferenceCard

/-- THE TIED CARD OF 'feedvaultlaw04.Rfc822Weekday'. -/
def rfc822WeekdayCard : Claim7 := { stood := { row := rfc822WeekdayRow, standIns := [], harness := (true, "b012e6e03c5dcc9fc184fb2ba406caf04c79f47760fb2496e5adc36100c117b3"), looks := true }, kinds := [], alts := [], laidByText := true, laidKinds := [.data, .data, .data, .data, .sentinel, .sentinel, .data, .data, .pinned], laidTests := true, laidLooks := .later }
def Rfc822WeekdayCardSaid : Prop := Claim7.holds Tryd.pinned (.plain (OpenSpec.ofChange rfc822WeekdaySpec)) rfc822WeekdayCard

/-- THE TIED CARD OF 'feedvaultlaw04.Rfc822Years'. -/
def rfc822YearsCard : Claim7 := { stood := { row := rfc822YearsRow, standIns := [], harness := (true, "b012e6e03c5dcc9fc184fb2ba406caf04c79f47760fb2496e5adc36100c117b3"), looks := true }, kinds := [], alts := [], laidByText := true, laidKinds := [.data, .data, .data, .data, .sentinel, .sentinel, .data, .data, .pinned], laidTests := true, laidLooks := .later }
def Rfc822YearsCardSaid : Prop := Claim7.holds Tryd.pinned (.plain (OpenSpec.ofChange rfc822YearsSpec)) rfc822YearsCard

/-- THE TIED CARD OF 'feedvaultlaw04.Rfc822Spaces'. -/
def rfc822SpacesCard : Claim7 := { stood := { row := rfc822SpacesRow, standIns := [], harness := (true, "b012e6e03c5dcc9fc184fb2ba406caf04c79f47760fb2496e5adc36100c117b3"), looks := true }, kinds := [], alts := [], laidByText := true, laidKinds := [.data, .data, .data, .data, .sentinel, .sentinel, .data, .data, .pinned], laidTests := true, laidLooks := .later }
def Rfc822SpacesCardSaid : Prop := Claim7.holds Tryd.pinned (.plain (OpenSpec.ofChange rfc822SpacesSpec)) rfc822SpacesCard

/-- THE TIED CARD OF 'feedvaultlaw04.Rfc822RoundTrip'. -/
def rfc822RoundTripCard : Claim7 := { stood := { row := rfc822RoundTripRow, standIns := [], harness := (true, "b012e6e03c5dcc9fc184fb2ba406caf04c79f47760fb2496e5adc36100c117b3"), looks := true }, kinds := [], alts := [], laidByText := true, laidKinds := [.data, .data, .data, .data, .sentinel, .sentinel, .data, .data, .pinned, .pinned], laidTests := true, laidLooks := .later }
def Rfc822RoundTripCardSaid : Prop := Claim7.holds Tryd.pinned (.plain (OpenSpec.ofChange rfc822RoundTripSpec)) rfc822RoundTripCard

/-- THE SECOND FORM's CARD OF 'feedvaultlaw04.Rfc822FormatMatchesReference'. -/
def rfc822FormatMatchesReferenceUptoCard : Claim7 := { stood := { row := rfc822FormatMatchesReferenceUptoRow, standIns := [], harness := (true, "b012e6e03c5dcc9fc184fb2ba406caf04c79f47760fb2496e5adc36100c117b3"), looks := true }, kinds := [], alts := [], laidByText := true, laidKinds := [.data, .data, .data, .data, .sentinel, .sentinel, .data, .data, .pinned], laidTests := true, laidLooks := .later }
def Rfc822FormatMatchesReferenceUptoCardSaid : Prop := Claim7.holds Tryd.pinned (.plain (OpenSpec.upto rfc822FormatMatchesReferenceSpec)) rfc822FormatMatchesReferenceUptoCard

/-- THE SECOND FORM's CARD OF 'feedvaultlaw04.Rfc822ParseMatchesReference'. -/
def rfc822ParseMatchesReferenceUptoCard : Claim7 := { stood := { row := rfc822ParseMatchesReferenceUptoRow, standIns := [], harness := (true, "b012e6e03c5dcc9fc184fb2ba406caf04c79f47760fb2496e5adc36100c117b3"), looks := true }, kinds := [], alts := [], laidByText := true, laidKinds := [.data, .data, .data, .data, .sentinel, .sentinel, .data, .data, .pinned], laidTests := true, laidLooks := .later }
def Rfc822ParseMatchesReferenceUptoCardSaid : Prop := Claim7.holds Tryd.pinned (.plain (OpenSpec.upto rfc822ParseMatchesReferenceSpec)) rfc822ParseMatchesReferenceUptoCard

/-- THE SECOND FORM's CARD OF 'feedvaultlaw04.Rfc822Weekday'. -/
def rfc822WeekdayUptoCard : Claim7 := { stood := { row := rfc822WeekdayUptoRow, standIns := [], harness := (true, "b012e6e03c5dcc9fc184fb2ba406caf04c79f47760fb2496e5adc36100c117b3"), looks := true }, kinds := [], alts := [], laidByText := true, laidKinds := [.data, .data, .data, .data, .sentinel, .sentinel, .data, .data, .pinned], laidTests := true, laidLooks := .later }
def Rfc822WeekdayUptoCardSaid : Prop := Claim7.holds Tryd.pinned (.plain (OpenSpec.upto rfc822WeekdaySpec)) rfc822WeekdayUptoCard

/-- THE SECOND FORM's CARD OF 'feedvaultlaw04.Rfc822Years'. -/
def rfc822YearsUptoCard : Claim7 := { stood := { row := rfc822YearsUptoRow, standIns := [], harness := (true, "b012e6e03c5dcc9fc184fb2ba406caf04c79f47760fb2496e5adc36100c117b3"), looks := true }, kinds := [], alts := [], laidByText := true, laidKinds := [.data, .data, .data, .data, .sentinel, .sentinel, .data, .data, .pinned], laidTests := true, laidLooks := .later }
def Rfc822YearsUptoCardSaid : Prop := Claim7.holds Tryd.pinned (.plain (OpenSpec.upto rfc822YearsSpec)) rfc822YearsUptoCard

/-- THE SECOND FORM's CARD OF 'feedvaultlaw04.Rfc822Spaces'. -/
def rfc822SpacesUptoCard : Claim7 := { stood := { row := rfc822SpacesUptoRow, standIns := [], harness := (true, "b012e6e03c5dcc9fc184fb2ba406caf04c79f47760fb2496e5adc36100c117b3"), looks := true }, kinds := [], alts := [], laidByText := true, laidKinds := [.data, .data, .data, .data, .sentinel, .sentinel, .data, .data, .pinned], laidTests := true, laidLooks := .later }
def Rfc822SpacesUptoCardSaid : Prop := Claim7.holds Tryd.pinned (.plain (OpenSpec.upto rfc822SpacesSpec)) rfc822SpacesUptoCard

/-- THE SECOND FORM's CARD OF 'feedvaultlaw04.Rfc822RoundTrip'. -/
def rfc822RoundTripUptoCard : Claim7 := { stood := { row := rfc822RoundTripUptoRow, standIns := [], harness := (true, "b012e6e03c5dcc9fc184fb2ba406caf04c79f47760fb2496e5adc36100c117b3"), looks := true }, kinds := [], alts := [], laidByText := true, laidKinds := [.data, .data, .data, .data, .sentinel, .sentinel, .data, .data, .pinned, .pinned], laidTests := true, laidLooks := .later }
def Rfc822RoundTripUptoCardSaid : Prop := Claim7.holds Tryd.pinned (.plain (OpenSpec.upto rfc822RoundTripSpec)) rfc822RoundTripUptoCard
end Rows
end Go.Proofs.YtooabnmmgmmklaaDoor
