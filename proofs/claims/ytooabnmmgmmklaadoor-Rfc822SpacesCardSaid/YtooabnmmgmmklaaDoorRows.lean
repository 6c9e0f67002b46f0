/-
  NARROWER THAN 'FOR EVERY INPUT', by the rows' own cells (each row's printed sentence says how): Rfc822FormatMatchesReference: laid · Rfc822ParseMatchesReference: laid · Rfc822Weekday: laid · Rfc822Years: laid · Rfc822Spaces: laid · Rfc822RoundTrip: laid.
  DERIVED. THE GIVEN ROWS OF THIS SEAT. 6 by the template 'for every input the law returns true; each argument reads behind the call as it read before'; 0 by the template 'total and deterministic' (their statements: YtooabnmmgmmklaaDoorTotals.lean).
  GIVEN WITH THE SEED: the statements are not yours to turn. If you find one false, say at which input.
  Laid BY PROGRAM, IN A SANDBOX (cutbox-rows.mjs): the forced cells as the released guide's own fill.sh prints them over the translation e3330d4dc89f41fa… (all of the seat's roots in one cut). By AI agents, Wed Nov 11 2026. No macro, syntax, notation, axiom, sorry.
-/
import Derived.Test.YtooabnmmgmmklaaDoorChecked
import GoSem.PinnedTables
import GoSem.Claim
import GoSem.ClaimJoined
import GoSem.ClaimMapViews
import Derived.JoinedTies
import Derived.KernelRfl
namespace Go.Proofs.YtooabnmmgmmklaaDoor
/- THE CELL 'sum', in the pinned program and in every row, IS THE sha256 OF THE DUMP (.gsa) THAT YtooabnmmgmmklaaDoorProg.lean LOADS. Nothing in Lean hashes anything: it is a label: what it is worth is what the hold of that sum in a sandbox is worth. -/
noncomputable def Tryd.pinned : Pinned := { name := "ytooabnmmgmmklaadoor", sum := "e3330d4dc89f41fa882f82841f10e5693b6972788873247cdcce31af6f2b14d8", checked := Tryd.checked }
namespace Rows
def none {H : Type} : Left H := { results := [], args := [] }

/- WHAT THE LISTED PACKAGE-LEVEL VARIABLES READ AS WHEN THE CALL BEGINS. Each datum BY PROGRAM (the guide's laid-datum.mjs) off the statement by which the dump's own 'gosem.cut.vars' lays the variable. In a bare row this is a premise. The card (YtooabnmmgmmklaaDoorCards.lean) ties it to the program's text. -/
def laid_math_bits_deBruijn32tab {H : Type} : DataW H := .agg [.lit (.int .u8 0), .lit (.int .u8 1), .lit (.int .u8 28), .lit (.int .u8 2), .lit (.int .u8 29), .lit (.int .u8 14), .lit (.int .u8 24), .lit (.int .u8 3), .lit (.int .u8 30), .lit (.int .u8 22), .lit (.int .u8 20), .lit (.int .u8 15), .lit (.int .u8 25), .lit (.int .u8 17), .lit (.int .u8 4), .lit (.int .u8 8), .lit (.int .u8 31), .lit (.int .u8 27), .lit (.int .u8 13), .lit (.int .u8 23), .lit (.int .u8 21), .lit (.int .u8 19), .lit (.int .u8 16), .lit (.int .u8 7), .lit (.int .u8 26), .lit (.int .u8 12), .lit (.int .u8 18), .lit (.int .u8 6), .lit (.int .u8 11), .lit (.int .u8 5), .lit (.int .u8 10), .lit (.int .u8 9)]
def laid_math_bits_deBruijn64tab {H : Type} : DataW H := .agg [.lit (.int .u8 0), .lit (.int .u8 1), .lit (.int .u8 56), .lit (.int .u8 2), .lit (.int .u8 57), .lit (.int .u8 49), .lit (.int .u8 28), .lit (.int .u8 3), .lit (.int .u8 61), .lit (.int .u8 58), .lit (.int .u8 42), .lit (.int .u8 50), .lit (.int .u8 38), .lit (.int .u8 29), .lit (.int .u8 17), .lit (.int .u8 4), .lit (.int .u8 62), .lit (.int .u8 47), .lit (.int .u8 59), .lit (.int .u8 36), .lit (.int .u8 45), .lit (.int .u8 43), .lit (.int .u8 51), .lit (.int .u8 22), .lit (.int .u8 53), .lit (.int .u8 39), .lit (.int .u8 33), .lit (.int .u8 30), .lit (.int .u8 24), .lit (.int .u8 18), .lit (.int .u8 12), .lit (.int .u8 5), .lit (.int .u8 63), .lit (.int .u8 55), .lit (.int .u8 48), .lit (.int .u8 27), .lit (.int .u8 60), .lit (.int .u8 41), .lit (.int .u8 37), .lit (.int .u8 16), .lit (.int .u8 46), .lit (.int .u8 35), .lit (.int .u8 44), .lit (.int .u8 21), .lit (.int .u8 52), .lit (.int .u8 32), .lit (.int .u8 23), .lit (.int .u8 11), .lit (.int .u8 54), .lit (.int .u8 26), .lit (.int .u8 40), .lit (.int .u8 15), .lit (.int .u8 34), .lit (.int .u8 20), .lit (.int .u8 31), .lit (.int .u8 10), .lit (.int .u8 25), .lit (.int .u8 14), .lit (.int .u8 19), .lit (.int .u8 9), .lit (.int .u8 13), .lit (.int .u8 8), .lit (.int .u8 7), .lit (.int .u8 6)]
def laid_internal_strconv_uint64pow10 {H : Type} : DataW H := .agg [.lit (.int .u64 1), .lit (.int .u64 10), .lit (.int .u64 100), .lit (.int .u64 1000), .lit (.int .u64 10000), .lit (.int .u64 100000), .lit (.int .u64 1000000), .lit (.int .u64 10000000), .lit (.int .u64 100000000), .lit (.int .u64 1000000000), .lit (.int .u64 10000000000), .lit (.int .u64 100000000000), .lit (.int .u64 1000000000000), .lit (.int .u64 10000000000000), .lit (.int .u64 100000000000000), .lit (.int .u64 1000000000000000), .lit (.int .u64 10000000000000000), .lit (.int .u64 100000000000000000), .lit (.int .u64 1000000000000000000), .lit (.int .u64 10000000000000000000)]
def laid_unicode_utf8_acceptRanges {H : Type} : DataW H := .agg [.agg [.lit (.int .u8 128), .lit (.int .u8 191)], .agg [.lit (.int .u8 160), .lit (.int .u8 191)], .agg [.lit (.int .u8 128), .lit (.int .u8 159)], .agg [.lit (.int .u8 144), .lit (.int .u8 191)], .agg [.lit (.int .u8 128), .lit (.int .u8 143)], .agg [.lit (.int .u8 0), .lit (.int .u8 0)], .agg [.lit (.int .u8 0), .lit (.int .u8 0)], .agg [.lit (.int .u8 0), .lit (.int .u8 0)], .agg [.lit (.int .u8 0), .lit (.int .u8 0)], .agg [.lit (.int .u8 0), .lit (.int .u8 0)], .agg [.lit (.int .u8 0), .lit (.int .u8 0)], .agg [.lit (.int .u8 0), .lit (.int .u8 0)], .agg [.lit (.int .u8 0), .lit (.int .u8 0)], .agg [.lit (.int .u8 0), .lit (.int .u8 0)], .agg [.lit (.int .u8 0), .lit (.int .u8 0)], .agg [.lit (.int .u8 0), .lit (.int .u8 0)]]
def laid_strconv_ErrRange {H : Type} : DataW H := .iface "*errors.errorString" (.ptr (.agg [.lit (.string [118, 97, 108, 117, 101, 32, 111, 117, 116, 32, 111, 102, 32, 114, 97, 110, 103, 101])]))
def laid_strconv_ErrSyntax {H : Type} : DataW H := .iface "*errors.errorString" (.ptr (.agg [.lit (.string [105, 110, 118, 97, 108, 105, 100, 32, 115, 121, 110, 116, 97, 120])]))
def laid_feedvault_rfc822_dayNames {H : Type} : DataW H := .agg [.lit (.string [115, 117, 110]), .lit (.string [109, 111, 110]), .lit (.string [116, 117, 101]), .lit (.string [119, 101, 100]), .lit (.string [116, 104, 117]), .lit (.string [102, 114, 105]), .lit (.string [115, 97, 116])]
def laid_feedvault_rfc822_monthNames {H : Type} : DataW H := .agg [.lit (.string [106, 97, 110]), .lit (.string [102, 101, 98]), .lit (.string [109, 97, 114]), .lit (.string [97, 112, 114]), .lit (.string [109, 97, 121]), .lit (.string [106, 117, 110]), .lit (.string [106, 117, 108]), .lit (.string [97, 117, 103]), .lit (.string [115, 101, 112]), .lit (.string [111, 99, 116]), .lit (.string [110, 111, 118]), .lit (.string [100, 101, 99])]
/-- One of Go's own tables, pinned by name: the form's constant. -/
def laid_unicode_utf8_first : DataW Unit := Go.Pinned.utf8First
/-- One of Go's own tables, pinned by name: the form's constant. -/
def laid_unicode_CaseRanges : DataW Unit := Go.Pinned.caseRanges

/-- 'feedvaultlaw04.Rfc822FormatMatchesReference': WHATEVER THE INPUT: true; the input reads as it did. -/
def rfc822FormatMatchesReferenceSpec : ChangeSpec := { name := "rfc822FormatMatchesReference", fn := fun _ => fun
  | [d] => { results := [.lit (.bool true)], args := [d] }
  | _ => none }
def rfc822FormatMatchesReferenceRow : OpenClaim := { program := "ytooabnmmgmmklaadoor", sum := "e3330d4dc89f41fa882f82841f10e5693b6972788873247cdcce31af6f2b14d8", func := "feedvault/feedvaultlaw04.Rfc822FormatMatchesReference", spec := "rfc822FormatMatchesReference", inPlace := ["internal/abi.NoEscape", "internal/bytealg.CountString", "internal/bytealg.IndexByteString", "internal/bytealg.IndexString"], named := ["feedvault/rfc822.dayNames", "feedvault/rfc822.monthNames", "internal/strconv.uint64pow10", "math/bits.deBruijn32tab", "math/bits.deBruijn64tab", "strconv.ErrSyntax", "strconv.ErrRange", "unicode/utf8.first", "unicode/utf8.acceptRanges", "internal/bytealg.MaxLen"], apart := false, laid := [("math/bits.deBruijn32tab", laid_math_bits_deBruijn32tab), ("math/bits.deBruijn64tab", laid_math_bits_deBruijn64tab), ("internal/strconv.uint64pow10", laid_internal_strconv_uint64pow10), ("unicode/utf8.acceptRanges", laid_unicode_utf8_acceptRanges), ("strconv.ErrRange", laid_strconv_ErrRange), ("strconv.ErrSyntax", laid_strconv_ErrSyntax), ("feedvault/rfc822.dayNames", laid_feedvault_rfc822_dayNames), ("feedvault/rfc822.monthNames", laid_feedvault_rfc822_monthNames), ("unicode/utf8.first", laid_unicode_utf8_first)] }
def Rfc822FormatMatchesReferenceSaid : Prop := rfc822FormatMatchesReferenceRow.holds Tryd.pinned (OpenSpec.ofChange rfc822FormatMatchesReferenceSpec)

/-- ITS FALSE NEIGHBOUR: 'it returns false'. Refute it at one input. -/
def rfc822FormatMatchesReferenceWrong : ChangeSpec := { name := "rfc822FormatMatchesReference", fn := fun _ => fun
  | [d] => { results := [.lit (.bool false)], args := [d] }
  | _ => none }
def Rfc822FormatMatchesReferenceWrongFalsely : Prop := rfc822FormatMatchesReferenceRow.holds Tryd.pinned (OpenSpec.ofChange rfc822FormatMatchesReferenceWrong)

/-- 'feedvaultlaw04.Rfc822ParseMatchesReference': WHATEVER THE INPUT: true; the input reads as it did. -/
def rfc822ParseMatchesReferenceSpec : ChangeSpec := { name := "rfc822ParseMatchesReference", fn := fun _ => fun
  | [d] => { results := [.lit (.bool true)], args := [d] }
  | _ => none }
def rfc822ParseMatchesReferenceRow : OpenClaim := { program := "ytooabnmmgmmklaadoor", sum := "e3330d4dc89f41fa882f82841f10e5693b6972788873247cdcce31af6f2b14d8", func := "feedvault/feedvaultlaw04.Rfc822ParseMatchesReference", spec := "rfc822ParseMatchesReference", inPlace := ["internal/abi.NoEscape", "internal/bytealg.CountString", "internal/bytealg.IndexByteString", "internal/bytealg.IndexString"], named := ["feedvault/rfc822.dayNames", "feedvault/rfc822.monthNames", "internal/strconv.uint64pow10", "math/bits.deBruijn32tab", "math/bits.deBruijn64tab", "strconv.ErrSyntax", "strconv.ErrRange", "unicode/utf8.first", "unicode/utf8.acceptRanges", "internal/bytealg.MaxLen"], apart := false, laid := [("math/bits.deBruijn32tab", laid_math_bits_deBruijn32tab), ("math/bits.deBruijn64tab", laid_math_bits_deBruijn64tab), ("internal/strconv.uint64pow10", laid_internal_strconv_uint64pow10), ("unicode/utf8.acceptRanges", laid_unicode_utf8_acceptRanges), ("strconv.ErrRange", laid_strconv_ErrRange), ("strconv.ErrSyntax", laid_strconv_ErrSyntax), ("feedvault/rfc822.dayNames", laid_feedvault_rfc822_dayNames), ("feedvault/rfc822.monthNames", laid_feedvault_rfc822_monthNames), ("unicode/utf8.first", laid_unicode_utf8_first)] }
def Rfc822ParseMatchesReferenceSaid : Prop := rfc822ParseMatchesReferenceRow.holds Tryd.pinned (OpenSpec.ofChange rfc822ParseMatchesReferenceSpec)

/-- ITS FALSE NEIGHBOUR: 'it returns false'. Refute it at one input. -/
def rfc822ParseMatchesReferenceWrong : ChangeSpec := { name := "rfc822ParseMatchesReference", fn := fun _ => fun
  | [d] => { results := [.lit (.bool false)], args := [d] }
  | _ => none }
def Rfc822ParseMatchesReferenceWrongFalsely : Prop := rfc822ParseMatchesReferenceRow.holds Tryd.pinned (OpenSpec.ofChange rfc822ParseMatchesReferenceWrong)

/-- 'feedvaultlaw04.Rfc822Weekday': WHATEVER THE INPUT: true; the input reads as it did. -/
def rfc822WeekdaySpec : ChangeSpec := { name := "rfc822Weekday", fn := fun _ => fun
  | [d1, d2] => { results := [.lit (.bool true)], args := [d1, d2] }
  | _ => none }
def rfc822WeekdayRow : OpenClaim := { program := "ytooabnmmgmmklaadoor", sum := "e3330d4dc89f41fa882f82841f10e5693b6972788873247cdcce31af6f2b14d8", func := "feedvault/feedvaultlaw04.Rfc822Weekday", spec := "rfc822Weekday", inPlace := ["internal/abi.NoEscape", "internal/bytealg.CountString", "internal/bytealg.IndexByteString", "internal/bytealg.IndexString"], named := ["feedvault/rfc822.dayNames", "feedvault/rfc822.monthNames", "internal/strconv.uint64pow10", "math/bits.deBruijn32tab", "math/bits.deBruijn64tab", "strconv.ErrSyntax", "strconv.ErrRange", "unicode/utf8.first", "unicode/utf8.acceptRanges", "internal/bytealg.MaxLen"], apart := false, laid := [("math/bits.deBruijn32tab", laid_math_bits_deBruijn32tab), ("math/bits.deBruijn64tab", laid_math_bits_deBruijn64tab), ("internal/strconv.uint64pow10", laid_internal_strconv_uint64pow10), ("unicode/utf8.acceptRanges", laid_unicode_utf8_acceptRanges), ("strconv.ErrRange", laid_strconv_ErrRange), ("strconv.ErrSyntax", laid_strconv_ErrSyntax), ("feedvault/rfc822.dayNames", laid_feedvault_rfc822_dayNames), ("feedvault/rfc822.monthNames", laid_feedvault_rfc822_monthNames), ("unicode/utf8.first", laid_unicode_utf8_first)] }
def Rfc822WeekdaySaid : Prop := rfc822WeekdayRow.holds Tryd.pinned (OpenSpec.ofChange rfc822WeekdaySpec)

/-- ITS FALSE NEIGHBOUR: 'it returns false'. Refute it at one input. -/
def rfc822WeekdayWrong : ChangeSpec := { name := "rfc822Weekday", fn := fun _ => fun
  | [d1, d2] => { results := [.lit (.bool false)], args := [d1, d2] }
  | _ => none }
def Rfc822WeekdayWrongFalsely : Prop := rfc822WeekdayRow.holds Tryd.pinned (OpenSpec.ofChange rfc822WeekdayWrong)

/-- 'feedvaultlaw04.Rfc822Years': WHATEVER THE INPUT: true; the input reads as it did. -/
def rfc822YearsSpec : ChangeSpec := { name := "rfc822Years", fn := fun _ => fun
  | [d1, d2, d3] => { results := [.lit (.bool true)], args := [d1, d2, d3] }
  | _ => none }
def rfc822YearsRow : OpenClaim := { program := "ytooabnmmgmmklaadoor", sum := "e3330d4dc89f41fa882f82841f10e5693b6972788873247cdcce31af6f2b14d8", func := "feedvault/feedvaultlaw04.Rfc822Years", spec := "rfc822Years", inPlace := ["internal/abi.NoEscape", "internal/bytealg.CountString", "internal/bytealg.IndexByteString", "internal/bytealg.IndexString"], named := ["unicode/utf8.first", "unicode/utf8.acceptRanges", "internal/bytealg.MaxLen", "feedvault/rfc822.dayNames", "strconv.ErrSyntax", "strconv.ErrRange", "internal/strconv.uint64pow10", "math/bits.deBruijn32tab", "math/bits.deBruijn64tab", "feedvault/rfc822.monthNames"], apart := false, laid := [("math/bits.deBruijn32tab", laid_math_bits_deBruijn32tab), ("math/bits.deBruijn64tab", laid_math_bits_deBruijn64tab), ("internal/strconv.uint64pow10", laid_internal_strconv_uint64pow10), ("unicode/utf8.acceptRanges", laid_unicode_utf8_acceptRanges), ("strconv.ErrRange", laid_strconv_ErrRange), ("strconv.ErrSyntax", laid_strconv_ErrSyntax), ("feedvault/rfc822.dayNames", laid_feedvault_rfc822_dayNames), ("feedvault/rfc822.monthNames", laid_feedvault_rfc822_monthNames), ("unicode/utf8.first", laid_unicode_utf8_first)] }
def Rfc822YearsSaid : Prop := rfc822YearsRow.holds Tryd.pinned (OpenSpec.ofChange rfc822YearsSpec)

/-- ITS FALSE NEIGHBOUR: 'it returns false'. Refute it at one input. -/
def rfc822YearsWrong : ChangeSpec := { name := "rfc822Years", fn := fun _ => fun
  | [d1, d2, d3] => { results := [.lit (.bool false)], args := [d1, d2, d3] }
  | _ => none }
def Rfc822YearsWrongFalsely : Prop := rfc822YearsRow.holds Tryd.pinned (OpenSpec.ofChange rfc822YearsWrong)

/-- 'feedvaultlaw04.Rfc822Spaces': WHATEVER THE INPUT: true; the input reads as it did. -/
def rfc822SpacesSpec : ChangeSpec := { name := "rfc822Spaces", fn := fun _ => fun
  | [d1, d2] => { results := [.lit (.bool true)], args := [d1, d2] }
  | _ => none }
def rfc822SpacesRow : OpenClaim := { program := "ytooabnmmgmmklaadoor", sum := "e3330d4dc89f41fa882f82841f10e5693b6972788873247cdcce31af6f2b14d8", func := "feedvault/feedvaultlaw04.Rfc822Spaces", spec := "rfc822Spaces", inPlace := ["internal/abi.NoEscape", "internal/bytealg.CountString", "internal/bytealg.IndexByteString", "internal/bytealg.IndexString", "internal/bytealg.MakeNoZero"], named := ["feedvault/rfc822.dayNames", "feedvault/rfc822.monthNames", "internal/strconv.uint64pow10", "math/bits.deBruijn32tab", "math/bits.deBruijn64tab", "strconv.ErrSyntax", "strconv.ErrRange", "unicode/utf8.first", "unicode/utf8.acceptRanges", "internal/bytealg.MaxLen"], apart := false, laid := [("math/bits.deBruijn32tab", laid_math_bits_deBruijn32tab), ("math/bits.deBruijn64tab", laid_math_bits_deBruijn64tab), ("internal/strconv.uint64pow10", laid_internal_strconv_uint64pow10), ("unicode/utf8.acceptRanges", laid_unicode_utf8_acceptRanges), ("strconv.ErrRange", laid_strconv_ErrRange), ("strconv.ErrSyntax", laid_strconv_ErrSyntax), ("feedvault/rfc822.dayNames", laid_feedvault_rfc822_dayNames), ("feedvault/rfc822.monthNames", laid_feedvault_rfc822_monthNames), ("unicode/utf8.first", laid_unicode_utf8_first)] }
def Rfc822SpacesSaid : Prop := rfc822SpacesRow.holds Tryd.pinned (OpenSpec.ofChange rfc822SpacesSpec)

/-- ITS FALSE NEIGHBOUR: 'it returns false'. Refute it at one input. -/
def rfc822SpacesWrong : ChangeSpec := { name := "rfc822Spaces", fn := fun _ => fun
  | [d1, d2] => { results := [.lit (.bool false)], args := [d1, d2] }
  | _ => none }
def Rfc822SpacesWrongFalsely : Prop := rfc822SpacesRow.holds Tryd.pinned (OpenSpec.ofChange rfc822SpacesWrong)

/-- 'feedvaultlaw04.Rfc822RoundTrip': WHATEVER THE INPUT: true; the input reads as it did. -/
def rfc822RoundTripSpec : ChangeSpec := { name := "rfc822RoundTrip", fn := fun _ => fun
  | [d] => { results := [.lit (.bool true)], args := [d] }
  | _ => none }
def rfc822RoundTripRow : OpenClaim := { program := "ytooabnmmgmmklaadoor", sum := "e3330d4dc89f41fa882f82841f10e5693b6972788873247cdcce31af6f2b14d8", func := "feedvault/feedvaultlaw04.Rfc822RoundTrip", spec := "rfc822RoundTrip", inPlace := ["internal/abi.NoEscape", "internal/bytealg.CountString", "internal/bytealg.IndexByteString", "internal/bytealg.IndexString", "internal/bytealg.MakeNoZero"], unfollowed := true, recurses := true, named := ["feedvault/rfc822.dayNames", "feedvault/rfc822.monthNames", "internal/strconv.uint64pow10", "math/bits.deBruijn32tab", "math/bits.deBruijn64tab", "strconv.ErrSyntax", "strconv.ErrRange", "unicode/utf8.first", "unicode/utf8.acceptRanges", "internal/bytealg.MaxLen", "unicode.CaseRanges"], apart := false, laid := [("math/bits.deBruijn32tab", laid_math_bits_deBruijn32tab), ("math/bits.deBruijn64tab", laid_math_bits_deBruijn64tab), ("internal/strconv.uint64pow10", laid_internal_strconv_uint64pow10), ("unicode/utf8.acceptRanges", laid_unicode_utf8_acceptRanges), ("strconv.ErrRange", laid_strconv_ErrRange), ("strconv.ErrSyntax", laid_strconv_ErrSyntax), ("feedvault/rfc822.dayNames", laid_feedvault_rfc822_dayNames), ("feedvault/rfc822.monthNames", laid_feedvault_rfc822_monthNames), ("unicode.CaseRanges", laid_unicode_CaseRanges), ("unicode/utf8.first", laid_unicode_utf8_first)] }
def Rfc822RoundTripSaid : Prop := rfc822RoundTripRow.holds Tryd.pinned (OpenSpec.ofChange rfc822RoundTripSpec)

/-- ITS FALSE NEIGHBOUR: 'it returns false'. Refute it at one input. -/
def rfc822RoundTripWrong : ChangeSpec := { name := "rfc822RoundTrip", fn := fun _ => fun
  | [d] => { results := [.lit (.bool false)], args := [d] }
  | _ => none }
def Rfc822RoundTripWrongFalsely : Prop := rfc822RoundTripRow.holds Tryd.pinned (OpenSpec.ofChange rfc822RoundTripWrong)

/- THE SECOND FORM. 'bulk': how many values and letters a reading holds, each counted each time it is reached (what is shared counts as often as it is met; a slice's spare places count too). A statement '..UptoSaid' is the law's where the arguments, and the package variables that the reading takes, are together of bulk at most 1048576: NARROWER than '..Said'. Prove '..Said' where nothing that the law and all that it calls make is longer than what came in: it says more and counts as full. Else prove '..UptoSaid'. A law counts once. -/
mutual
def uptoBulk {H : Type} : DataW H → Nat
  | .lit (.string bytes) => bytes.length + 1
  | .lit _ => 1
  | .nil => 1
  | .ptr d => uptoBulk d + 1
  | .slice elems spare => uptoBulkAll elems + uptoBulkAll spare + 1
  | .agg parts => uptoBulkAll parts + 1
  | .iface _ d => uptoBulk d + 1
  | .map entries => uptoBulkEntries entries + 1
  | .held _ => 1
def uptoBulkAll {H : Type} : List (DataW H) → Nat
  | [] => 0
  | d :: r => uptoBulk d + uptoBulkAll r
def uptoBulkEntries {H : Type} : List (Lit × DataW H) → Nat
  | [] => 0
  | x :: r => uptoBulkEntry x + uptoBulkEntries r
def uptoBulkEntry {H : Type} : Lit × DataW H → Nat
  | (.string bytes, d) => bytes.length + uptoBulk d + 1
  | (_, d) => uptoBulk d + 1
 end
def uptoSmall : (H : Type) → List (DataW H) → Bool := fun _ ds => decide (uptoBulkAll ds ≤ 1048576)
def OpenSpec.upto (s : _root_.Go.ChangeSpec) : _root_.Go.OpenSpec := { _root_.Go.OpenSpec.ofChange s with cond := some uptoSmall }

/-- 'feedvaultlaw04.Rfc822FormatMatchesReference', WHERE WHAT IT READS IS OF BULK AT MOST 1048576: true; the input reads as it did. -/
def rfc822FormatMatchesReferenceUptoRow : OpenClaim := { program := "ytooabnmmgmmklaadoor", sum := "e3330d4dc89f41fa882f82841f10e5693b6972788873247cdcce31af6f2b14d8", func := "feedvault/feedvaultlaw04.Rfc822FormatMatchesReference", spec := "rfc822FormatMatchesReference", inPlace := ["internal/abi.NoEscape", "internal/bytealg.CountString", "internal/bytealg.IndexByteString", "internal/bytealg.IndexString"], named := ["feedvault/rfc822.dayNames", "feedvault/rfc822.monthNames", "internal/strconv.uint64pow10", "math/bits.deBruijn32tab", "math/bits.deBruijn64tab", "strconv.ErrSyntax", "strconv.ErrRange", "unicode/utf8.first", "unicode/utf8.acceptRanges", "internal/bytealg.MaxLen"], apart := false, laid := [("math/bits.deBruijn32tab", laid_math_bits_deBruijn32tab), ("math/bits.deBruijn64tab", laid_math_bits_deBruijn64tab), ("internal/strconv.uint64pow10", laid_internal_strconv_uint64pow10), ("unicode/utf8.acceptRanges", laid_unicode_utf8_acceptRanges), ("strconv.ErrRange", laid_strconv_ErrRange), ("strconv.ErrSyntax", laid_strconv_ErrSyntax), ("feedvault/rfc822.dayNames", laid_feedvault_rfc822_dayNames), ("feedvault/rfc822.monthNames", laid_feedvault_rfc822_monthNames), ("unicode/utf8.first", laid_unicode_utf8_first)], narrowed := true }
def Rfc822FormatMatchesReferenceUptoSaid : Prop := rfc822FormatMatchesReferenceUptoRow.holds Tryd.pinned (OpenSpec.upto rfc822FormatMatchesReferenceSpec)

/-- 'feedvaultlaw04.Rfc822ParseMatchesReference', WHERE WHAT IT READS IS OF BULK AT MOST 1048576: true; the input reads as it did. -/
def rfc822ParseMatchesReferenceUptoRow : OpenClaim := { program := "ytooabnmmgmmklaadoor", sum := "e3330d4dc89f41fa882f82841f10e5693b6972788873247cdcce31af6f2b14d8", func := "feedvault/feedvaultlaw04.Rfc822ParseMatchesReference", spec := "rfc822ParseMatchesReference", inPlace := ["internal/abi.NoEscape", "internal/bytealg.CountString", "internal/bytealg.IndexByteString", "internal/bytealg.IndexString"], named := ["feedvault/rfc822.dayNames", "feedvault/rfc822.monthNames", "internal/strconv.uint64pow10", "math/bits.deBruijn32tab", "math/bits.deBruijn64tab", "strconv.ErrSyntax", "strconv.ErrRange", "unicode/utf8.first", "unicode/utf8.acceptRanges", "internal/bytealg.MaxLen"], apart := false, laid := [("math/bits.deBruijn32tab", laid_math_bits_deBruijn32tab), ("math/bits.deBruijn64tab", laid_math_bits_deBruijn64tab), ("internal/strconv.uint64pow10", laid_internal_strconv_uint64pow10), ("unicode/utf8.acceptRanges", laid_unicode_utf8_acceptRanges), ("strconv.ErrRange", laid_strconv_ErrRange), ("strconv.ErrSyntax", laid_strconv_ErrSyntax), ("feedvault/rfc822.dayNames", laid_feedvault_rfc822_dayNames), ("feedvault/rfc822.monthNames", laid_feedvault_rfc822_monthNames), ("unicode/utf8.first", laid_unicode_utf8_first)], narrowed := true }
def Rfc822ParseMatchesReferenceUptoSaid : Prop := rfc822ParseMatchesReferenceUptoRow.holds Tryd.pinned (OpenSpec.upto rfc822ParseMatchesReferenceSpec)

/-- 'feedvaultlaw04.Rfc822Weekday', WHERE WHAT IT READS IS OF BULK AT MOST 1048576: true; the input reads as it did. -/
def rfc822WeekdayUptoRow : OpenClaim := { program := "ytooabnmmgmmklaadoor", sum := "e3330d4dc89f41fa882f82841f10e5693b6972788873247cdcce31af6f2b14d8", func := "feedvault/feedvaultlaw04.Rfc822Weekday", spec := "rfc822Weekday", inPlace := ["internal/abi.NoEscape", "internal/bytealg.CountString", "internal/bytealg.IndexByteString", "internal/bytealg.IndexString"], named := ["feedvault/rfc822.dayNames", "feedvault/rfc822.monthNames", "internal/strconv.uint64pow10", "math/bits.deBruijn32tab", "math/bits.deBruijn64tab", "strconv.ErrSyntax", "strconv.ErrRange", "unicode/utf8.first", "unicode/utf8.acceptRanges", "internal/bytealg.MaxLen"], apart := false, laid := [("math/bits.deBruijn32tab", laid_math_bits_deBruijn32tab), ("math/bits.deBruijn64tab", laid_math_bits_deBruijn64tab), ("internal/strconv.uint64pow10", laid_internal_strconv_uint64pow10), ("unicode/utf8.acceptRanges", laid_unicode_utf8_acceptRanges), ("strconv.ErrRange", laid_strconv_ErrRange), ("strconv.ErrSyntax", laid_strconv_ErrSyntax), ("feedvault/rfc822.dayNames", laid_feedvault_rfc822_dayNames), ("feedvault/rfc822.monthNames", laid_feedvault_rfc822_monthNames), ("unicode/utf8.first", laid_unicode_utf8_first)], narrowed := true }
def Rfc822WeekdayUptoSaid : Prop := rfc822WeekdayUptoRow.holds Tryd.pinned (OpenSpec.upto rfc822WeekdaySpec)

/-- 'feedvaultlaw04.Rfc822Years', WHERE WHAT IT READS IS OF BULK AT MOST 1048576: true; the input reads as it did. -/
def rfc822YearsUptoRow : OpenClaim := { program := "ytooabnmmgmmklaadoor", sum := "e3330d4dc89f41fa882f82841f10e5693b6972788873247cdcce31af6f2b14d8", func := "feedvault/feedvaultlaw04.Rfc822Years", spec := "rfc822Years", inPlace := ["internal/abi.NoEscape", "internal/bytealg.CountString", "internal/bytealg.IndexByteString", "internal/bytealg.IndexString"], named := ["unicode/utf8.first", "unicode/utf8.acceptRanges", "internal/bytealg.MaxLen", "feedvault/rfc822.dayNames", "strconv.ErrSyntax", "strconv.ErrRange", "internal/strconv.uint64pow10", "math/bits.deBruijn32tab", "math/bits.deBruijn64tab", "feedvault/rfc822.monthNames"], apart := false, laid := [("math/bits.deBruijn32tab", laid_math_bits_deBruijn32tab), ("math/bits.deBruijn64tab", laid_math_bits_deBruijn64tab), ("internal/strconv.uint64pow10", laid_internal_strconv_uint64pow10), ("unicode/utf8.acceptRanges", laid_unicode_utf8_acceptRanges), ("strconv.ErrRange", laid_strconv_ErrRange), ("strconv.ErrSyntax", laid_strconv_ErrSyntax), ("feedvault/rfc822.dayNames", laid_feedvault_rfc822_dayNames), ("feedvault/rfc822.monthNames", laid_feedvault_rfc822_monthNames), ("unicode/utf8.first", laid_unicode_utf8_first)], narrowed := true }
def Rfc822YearsUptoSaid : Prop := rfc822YearsUptoRow.holds Tryd.pinned (OpenSpec.upto rfc822YearsSpec)

/-- 'feedvaultlaw04.Rfc822Spaces', WHERE WHAT IT READS IS OF BULK AT MOST 1048576: true; the input reads as it did. -/
def rfc822SpacesUptoRow : OpenClaim := { program := "ytooabnmmgmmklaadoor", sum := "e3330d4dc89f41fa882f82841f10e5693b6972788873247cdcce31af6f2b14d8", func := "feedvault/feedvaultlaw04.Rfc822Spaces", spec := "rfc822Spaces", inPlace := ["internal/abi.NoEscape", "internal/bytealg.CountString", "internal/bytealg.IndexByteString", "internal/bytealg.IndexString", "internal/bytealg.MakeNoZero"], named := ["feedvault/rfc822.dayNames", "feedvault/rfc822.monthNames", "internal/strconv.uint64pow10", "math/bits.deBruijn32tab", "math/bits.deBruijn64tab", "strconv.ErrSyntax", "strconv.ErrRange", "unicode/utf8.first", "unicode/utf8.acceptRanges", "internal/bytealg.MaxLen"], apart := false, laid := [("math/bits.deBruijn32tab", laid_math_bits_deBruijn32tab), ("math/bits.deBruijn64tab", laid_math_bits_deBruijn64tab), ("internal/strconv.uint64pow10", laid_internal_strconv_uint64pow10), ("unicode/utf8.acceptRanges", laid_unicode_utf8_acceptRanges), ("strconv.ErrRange", laid_strconv_ErrRange), ("strconv.ErrSyntax", laid_strconv_ErrSyntax), ("feedvault/rfc822.dayNames", laid_feedvault_rfc822_dayNames), ("feedvault/rfc822.monthNames", laid_feedvault_rfc822_monthNames), ("unicode/utf8.first", laid_unicode_utf8_first)], narrowed := true }
def Rfc822SpacesUptoSaid : Prop := rfc822SpacesUptoRow.holds Tryd.pinned (OpenSpec.upto rfc822SpacesSpec)

/-- 'feedvaultlaw04.Rfc822RoundTrip', WHERE WHAT IT READS IS OF BULK AT MOST 1048576: true; the input reads as it did. -/
def rfc822RoundTripUptoRow : OpenClaim := { program := "ytooabnmmgmmklaadoor", sum := "e3330d4dc89f41fa882f82841f10e5693b6972788873247cdcce31af6f2b14d8", func := "feedvault/feedvaultlaw04.Rfc822RoundTrip", spec := "rfc822RoundTrip", inPlace := ["internal/abi.NoEscape", "internal/bytealg.CountString", "internal/bytealg.IndexByteString", "internal/bytealg.IndexString", "internal/bytealg.MakeNoZero"], unfollowed := true, recurses := true, named := ["feedvault/rfc822.dayNames", "feedvault/rfc822.monthNames", "internal/strconv.uint64pow10", "math/bits.deBruijn32tab", "math/bits.deBruijn64tab", "strconv.ErrSyntax", "strconv.ErrRange", "unicode/utf8.first", "unicode/utf8.acceptRanges", "internal/bytealg.MaxLen", "unicode.CaseRanges"], apart := false, laid := [("math/bits.deBruijn32tab", laid_math_bits_deBruijn32tab), ("math/bits.deBruijn64tab", laid_math_bits_deBruijn64tab), ("internal/strconv.uint64pow10", laid_internal_strconv_uint64pow10), ("unicode/utf8.acceptRanges", laid_unicode_utf8_acceptRanges), ("strconv.ErrRange", laid_strconv_ErrRange), ("strconv.ErrSyntax", laid_strconv_ErrSyntax), ("feedvault/rfc822.dayNames", laid_feedvault_rfc822_dayNames), ("feedvault/rfc822.monthNames", laid_feedvault_rfc822_monthNames), ("unicode.CaseRanges", laid_unicode_CaseRanges), ("unicode/utf8.first", laid_unicode_utf8_first)], narrowed := true }
def Rfc822RoundTripUptoSaid : Prop := rfc822RoundTripUptoRow.holds Tryd.pinned (OpenSpec.upto rfc822RoundTripSpec)

end Rows
end Go.Proofs.YtooabnmmgmmklaaDoor
