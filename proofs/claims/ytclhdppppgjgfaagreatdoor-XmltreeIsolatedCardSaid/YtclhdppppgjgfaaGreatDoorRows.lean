/-
  NARROWER THAN 'FOR EVERY INPUT', by the rows' own cells (each row's printed sentence says how): XmltreeMatchesReference: laid · XmltreeFunctions: loops, laid · XmltreeIsNormal: laid · XmltreeIsolated: laid · XmltreeWraps: laid · XmltreeDepth: laid · XmlwriteRoundTrip: loops, laid · XmlwriteParsed: laid.
  DERIVED. THE GIVEN ROWS OF THIS SEAT. 8 by the template 'for every input the law returns true; each argument reads behind the call as it read before'; 0 by the template 'total and deterministic' (their statements: YtclhdppppgjgfaaGreatDoorTotals.lean).
  GIVEN WITH THE SEED: the statements are not yours to turn. If you find one false, say at which input.
  Laid BY PROGRAM, IN A SANDBOX (cutbox-rows.mjs): the forced cells as the released guide's own fill.sh prints them over the translation e6a3745dfbb59833… (all of the seat's roots in one cut). By AI agents, Wed Nov 11 2026. No macro, syntax, notation, axiom, sorry.
-/
import Derived.Test.YtclhdppppgjgfaaGreatDoorChecked
import GoSem.PinnedTables
import GoSem.Claim
import GoSem.ClaimJoined
import GoSem.ClaimMapViews
import Derived.JoinedTies
import Derived.KernelRfl
namespace Go.Proofs.YtclhdppppgjgfaaGreatDoor
/- THE CELL 'sum', in the pinned program and in every row, IS THE sha256 OF THE DUMP (.gsa) THAT YtclhdppppgjgfaaGreatDoorProg.lean LOADS. Nothing in Lean hashes anything: it is a label: what it is worth is what the hold of that sum in a sandbox is worth. -/
noncomputable def Tryz.pinned : Pinned := { name := "ytclhdppppgjgfaagreatdoor", sum := "e6a3745dfbb598336dbbc7b0433211f89d95e463bc7dd17128488d7a26cbb154", checked := Tryz.checked }
namespace Rows
def none {H : Type} : Left H := { results := [], args := [] }

/- WHAT THE LISTED PACKAGE-LEVEL VARIABLES READ AS WHEN THE CALL BEGINS. Each datum BY PROGRAM (the guide's laid-datum.mjs) off the statement by which the dump's own 'gosem.cut.vars' lays the variable. In a bare row this is a premise. The card (YtclhdppppgjgfaaGreatDoorCards.lean) ties it to the program's text. -/
def laid_unicode_utf8_acceptRanges {H : Type} : DataW H := .agg [.agg [.lit (.int .u8 128), .lit (.int .u8 191)], .agg [.lit (.int .u8 160), .lit (.int .u8 191)], .agg [.lit (.int .u8 128), .lit (.int .u8 159)], .agg [.lit (.int .u8 144), .lit (.int .u8 191)], .agg [.lit (.int .u8 128), .lit (.int .u8 143)], .agg [.lit (.int .u8 0), .lit (.int .u8 0)], .agg [.lit (.int .u8 0), .lit (.int .u8 0)], .agg [.lit (.int .u8 0), .lit (.int .u8 0)], .agg [.lit (.int .u8 0), .lit (.int .u8 0)], .agg [.lit (.int .u8 0), .lit (.int .u8 0)], .agg [.lit (.int .u8 0), .lit (.int .u8 0)], .agg [.lit (.int .u8 0), .lit (.int .u8 0)], .agg [.lit (.int .u8 0), .lit (.int .u8 0)], .agg [.lit (.int .u8 0), .lit (.int .u8 0)], .agg [.lit (.int .u8 0), .lit (.int .u8 0)], .agg [.lit (.int .u8 0), .lit (.int .u8 0)]]
def laid_feedvault_text_startRanges {H : Type} : DataW H := .agg [.agg [.lit (.int .i32 65), .lit (.int .i32 90)], .agg [.lit (.int .i32 95), .lit (.int .i32 95)], .agg [.lit (.int .i32 97), .lit (.int .i32 122)], .agg [.lit (.int .i32 192), .lit (.int .i32 214)], .agg [.lit (.int .i32 216), .lit (.int .i32 246)], .agg [.lit (.int .i32 248), .lit (.int .i32 767)], .agg [.lit (.int .i32 880), .lit (.int .i32 893)], .agg [.lit (.int .i32 895), .lit (.int .i32 8191)], .agg [.lit (.int .i32 8204), .lit (.int .i32 8205)], .agg [.lit (.int .i32 8304), .lit (.int .i32 8591)], .agg [.lit (.int .i32 11264), .lit (.int .i32 12271)], .agg [.lit (.int .i32 12289), .lit (.int .i32 55295)], .agg [.lit (.int .i32 63744), .lit (.int .i32 64975)], .agg [.lit (.int .i32 65008), .lit (.int .i32 65533)], .agg [.lit (.int .i32 65536), .lit (.int .i32 983039)]]
def laid_feedvault_text_moreRanges {H : Type} : DataW H := .agg [.agg [.lit (.int .i32 45), .lit (.int .i32 46)], .agg [.lit (.int .i32 48), .lit (.int .i32 57)], .agg [.lit (.int .i32 183), .lit (.int .i32 183)], .agg [.lit (.int .i32 768), .lit (.int .i32 879)], .agg [.lit (.int .i32 8255), .lit (.int .i32 8256)]]
/-- One of Go's own tables, pinned by name: the form's constant. -/
def laid_unicode_utf8_first : DataW Unit := Go.Pinned.utf8First

/-- 'feedvaultlaw07.XmltreeMatchesReference': WHATEVER THE INPUT: true; the input reads as it did. -/
def xmltreeMatchesReferenceSpec : ChangeSpec := { name := "xmltreeMatchesReference", fn := fun _ => fun
  | [d] => { results := [.lit (.bool true)], args := [d] }
  | _ => none }
def xmltreeMatchesReferenceRow : OpenClaim := { program := "ytclhdppppgjgfaagreatdoor", sum := "e6a3745dfbb598336dbbc7b0433211f89d95e463bc7dd17128488d7a26cbb154", func := "feedvault/feedvaultlaw07.XmltreeMatchesReference", spec := "xmltreeMatchesReference", inPlace := ["internal/bytealg.IndexByteString", "internal/bytealg.IndexString", "internal/bytealg.CountString", "internal/abi.NoEscape", "internal/bytealg.MakeNoZero", "sync/atomic.LoadUint32", "(*internal/sync.Mutex).Lock", "internal/race.Disable", "sync/atomic.CompareAndSwapInt32", "internal/race.Enable", "internal/race.Acquire", "(*internal/sync.Mutex).lockSlow", "internal/sync.runtime_canSpin", "internal/sync.runtime_doSpin", "internal/sync.throw", "internal/sync.runtime_nanotime", "internal/sync.runtime_SemacquireMutex", "sync/atomic.AddInt32", "(*internal/sync.Mutex).Unlock", "internal/race.ReleaseMerge", "(*internal/sync.Mutex).unlockSlow", "internal/sync.fatal", "internal/sync.runtime_Semrelease", "sync/atomic.StoreUint32"], unfollowed := true, recurses := true, named := ["unicode/utf8.first", "unicode/utf8.acceptRanges", "internal/bytealg.MaxLen", "feedvault/text.moreRanges", "feedvault/text.startRanges"], apart := false, laid := [("unicode/utf8.acceptRanges", laid_unicode_utf8_acceptRanges), ("feedvault/text.startRanges", laid_feedvault_text_startRanges), ("feedvault/text.moreRanges", laid_feedvault_text_moreRanges), ("unicode/utf8.first", laid_unicode_utf8_first)] }
def XmltreeMatchesReferenceSaid : Prop := xmltreeMatchesReferenceRow.holds Tryz.pinned (OpenSpec.ofChange xmltreeMatchesReferenceSpec)

/-- ITS FALSE NEIGHBOUR: 'it returns false'. Refute it at one input. -/
def xmltreeMatchesReferenceWrong : ChangeSpec := { name := "xmltreeMatchesReference", fn := fun _ => fun
  | [d] => { results := [.lit (.bool false)], args := [d] }
  | _ => none }
def XmltreeMatchesReferenceWrongFalsely : Prop := xmltreeMatchesReferenceRow.holds Tryz.pinned (OpenSpec.ofChange xmltreeMatchesReferenceWrong)

/-- 'feedvaultlaw07.XmltreeFunctions': WHATEVER THE INPUT: true; the input reads as it did. -/
def xmltreeFunctionsSpec : ChangeSpec := { name := "xmltreeFunctions", fn := fun _ => fun
  | [d1, d2] => { results := [.lit (.bool true)], args := [d1, d2] }
  | _ => none }
def xmltreeFunctionsRow : OpenClaim := { program := "ytclhdppppgjgfaagreatdoor", sum := "e6a3745dfbb598336dbbc7b0433211f89d95e463bc7dd17128488d7a26cbb154", func := "feedvault/feedvaultlaw07.XmltreeFunctions", spec := "xmltreeFunctions", inPlace := ["internal/bytealg.IndexByteString", "internal/bytealg.IndexString", "internal/bytealg.CountString", "internal/abi.NoEscape", "internal/bytealg.MakeNoZero", "sync/atomic.LoadUint32", "(*internal/sync.Mutex).Lock", "internal/race.Disable", "sync/atomic.CompareAndSwapInt32", "internal/race.Enable", "internal/race.Acquire", "(*internal/sync.Mutex).lockSlow", "internal/sync.runtime_canSpin", "internal/sync.runtime_doSpin", "internal/sync.throw", "internal/sync.runtime_nanotime", "internal/sync.runtime_SemacquireMutex", "sync/atomic.AddInt32", "(*internal/sync.Mutex).Unlock", "internal/race.ReleaseMerge", "(*internal/sync.Mutex).unlockSlow", "internal/sync.fatal", "internal/sync.runtime_Semrelease", "sync/atomic.StoreUint32"], unfollowed := true, recurses := true, named := ["unicode/utf8.first", "unicode/utf8.acceptRanges", "internal/bytealg.MaxLen", "feedvault/text.moreRanges", "feedvault/text.startRanges"], loops := true, apart := false, laid := [("unicode/utf8.acceptRanges", laid_unicode_utf8_acceptRanges), ("feedvault/text.startRanges", laid_feedvault_text_startRanges), ("feedvault/text.moreRanges", laid_feedvault_text_moreRanges), ("unicode/utf8.first", laid_unicode_utf8_first)] }
def XmltreeFunctionsSaid : Prop := xmltreeFunctionsRow.holds Tryz.pinned (OpenSpec.ofChange xmltreeFunctionsSpec)

/-- ITS FALSE NEIGHBOUR: 'it returns false'. Refute it at one input. -/
def xmltreeFunctionsWrong : ChangeSpec := { name := "xmltreeFunctions", fn := fun _ => fun
  | [d1, d2] => { results := [.lit (.bool false)], args := [d1, d2] }
  | _ => none }
def XmltreeFunctionsWrongFalsely : Prop := xmltreeFunctionsRow.holds Tryz.pinned (OpenSpec.ofChange xmltreeFunctionsWrong)

/-- 'feedvaultlaw07.XmltreeIsNormal': WHATEVER THE INPUT: true; the input reads as it did. -/
def xmltreeIsNormalSpec : ChangeSpec := { name := "xmltreeIsNormal", fn := fun _ => fun
  | [d] => { results := [.lit (.bool true)], args := [d] }
  | _ => none }
def xmltreeIsNormalRow : OpenClaim := { program := "ytclhdppppgjgfaagreatdoor", sum := "e6a3745dfbb598336dbbc7b0433211f89d95e463bc7dd17128488d7a26cbb154", func := "feedvault/feedvaultlaw07.XmltreeIsNormal", spec := "xmltreeIsNormal", inPlace := ["internal/bytealg.IndexByteString", "internal/bytealg.IndexString", "internal/bytealg.CountString", "internal/abi.NoEscape", "internal/bytealg.MakeNoZero", "sync/atomic.LoadUint32", "(*internal/sync.Mutex).Lock", "internal/race.Disable", "sync/atomic.CompareAndSwapInt32", "internal/race.Enable", "internal/race.Acquire", "(*internal/sync.Mutex).lockSlow", "internal/sync.runtime_canSpin", "internal/sync.runtime_doSpin", "internal/sync.throw", "internal/sync.runtime_nanotime", "internal/sync.runtime_SemacquireMutex", "sync/atomic.AddInt32", "(*internal/sync.Mutex).Unlock", "internal/race.ReleaseMerge", "(*internal/sync.Mutex).unlockSlow", "internal/sync.fatal", "internal/sync.runtime_Semrelease", "sync/atomic.StoreUint32"], unfollowed := true, recurses := true, named := ["unicode/utf8.first", "unicode/utf8.acceptRanges", "internal/bytealg.MaxLen", "feedvault/text.moreRanges", "feedvault/text.startRanges"], apart := false, laid := [("unicode/utf8.acceptRanges", laid_unicode_utf8_acceptRanges), ("feedvault/text.startRanges", laid_feedvault_text_startRanges), ("feedvault/text.moreRanges", laid_feedvault_text_moreRanges), ("unicode/utf8.first", laid_unicode_utf8_first)] }
def XmltreeIsNormalSaid : Prop := xmltreeIsNormalRow.holds Tryz.pinned (OpenSpec.ofChange xmltreeIsNormalSpec)

/-- ITS FALSE NEIGHBOUR: 'it returns false'. Refute it at one input. -/
def xmltreeIsNormalWrong : ChangeSpec := { name := "xmltreeIsNormal", fn := fun _ => fun
  | [d] => { results := [.lit (.bool false)], args := [d] }
  | _ => none }
def XmltreeIsNormalWrongFalsely : Prop := xmltreeIsNormalRow.holds Tryz.pinned (OpenSpec.ofChange xmltreeIsNormalWrong)

/-- 'feedvaultlaw07.XmltreeIsolated': WHATEVER THE INPUT: true; the input reads as it did. -/
def xmltreeIsolatedSpec : ChangeSpec := { name := "xmltreeIsolated", fn := fun _ => fun
  | [d] => { results := [.lit (.bool true)], args := [d] }
  | _ => none }
def xmltreeIsolatedRow : OpenClaim := { program := "ytclhdppppgjgfaagreatdoor", sum := "e6a3745dfbb598336dbbc7b0433211f89d95e463bc7dd17128488d7a26cbb154", func := "feedvault/feedvaultlaw07.XmltreeIsolated", spec := "xmltreeIsolated", inPlace := ["internal/bytealg.IndexByteString", "internal/bytealg.IndexString", "internal/bytealg.CountString", "internal/abi.NoEscape", "internal/bytealg.MakeNoZero", "sync/atomic.LoadUint32", "(*internal/sync.Mutex).Lock", "internal/race.Disable", "sync/atomic.CompareAndSwapInt32", "internal/race.Enable", "internal/race.Acquire", "(*internal/sync.Mutex).lockSlow", "internal/sync.runtime_canSpin", "internal/sync.runtime_doSpin", "internal/sync.throw", "internal/sync.runtime_nanotime", "internal/sync.runtime_SemacquireMutex", "sync/atomic.AddInt32", "(*internal/sync.Mutex).Unlock", "internal/race.ReleaseMerge", "(*internal/sync.Mutex).unlockSlow", "internal/sync.fatal", "internal/sync.runtime_Semrelease", "sync/atomic.StoreUint32"], unfollowed := true, recurses := true, named := ["unicode/utf8.first", "unicode/utf8.acceptRanges", "internal/bytealg.MaxLen", "feedvault/text.moreRanges", "feedvault/text.startRanges"], apart := false, laid := [("unicode/utf8.acceptRanges", laid_unicode_utf8_acceptRanges), ("feedvault/text.startRanges", laid_feedvault_text_startRanges), ("feedvault/text.moreRanges", laid_feedvault_text_moreRanges), ("unicode/utf8.first", laid_unicode_utf8_first)] }
def XmltreeIsolatedSaid : Prop := xmltreeIsolatedRow.holds Tryz.pinned (OpenSpec.ofChange xmltreeIsolatedSpec)

/-- ITS FALSE NEIGHBOUR: 'it returns false'. Refute it at one input. -/
def xmltreeIsolatedWrong : ChangeSpec := { name := "xmltreeIsolated", fn := fun _ => fun
  | [d] => { results := [.lit (.bool false)], args := [d] }
  | _ => none }
def XmltreeIsolatedWrongFalsely : Prop := xmltreeIsolatedRow.holds Tryz.pinned (OpenSpec.ofChange xmltreeIsolatedWrong)

/-- 'feedvaultlaw07.XmltreeWraps': WHATEVER THE INPUT: true; the input reads as it did. -/
def xmltreeWrapsSpec : ChangeSpec := { name := "xmltreeWraps", fn := fun _ => fun
  | [d] => { results := [.lit (.bool true)], args := [d] }
  | _ => none }
def xmltreeWrapsRow : OpenClaim := { program := "ytclhdppppgjgfaagreatdoor", sum := "e6a3745dfbb598336dbbc7b0433211f89d95e463bc7dd17128488d7a26cbb154", func := "feedvault/feedvaultlaw07.XmltreeWraps", spec := "xmltreeWraps", inPlace := ["internal/bytealg.IndexByteString", "internal/bytealg.IndexString", "internal/bytealg.CountString", "internal/abi.NoEscape", "internal/bytealg.MakeNoZero", "sync/atomic.LoadUint32", "(*internal/sync.Mutex).Lock", "internal/race.Disable", "sync/atomic.CompareAndSwapInt32", "internal/race.Enable", "internal/race.Acquire", "(*internal/sync.Mutex).lockSlow", "internal/sync.runtime_canSpin", "internal/sync.runtime_doSpin", "internal/sync.throw", "internal/sync.runtime_nanotime", "internal/sync.runtime_SemacquireMutex", "sync/atomic.AddInt32", "(*internal/sync.Mutex).Unlock", "internal/race.ReleaseMerge", "(*internal/sync.Mutex).unlockSlow", "internal/sync.fatal", "internal/sync.runtime_Semrelease", "sync/atomic.StoreUint32"], unfollowed := true, recurses := true, named := ["unicode/utf8.first", "unicode/utf8.acceptRanges", "internal/bytealg.MaxLen", "feedvault/text.moreRanges", "feedvault/text.startRanges"], apart := false, laid := [("unicode/utf8.acceptRanges", laid_unicode_utf8_acceptRanges), ("feedvault/text.startRanges", laid_feedvault_text_startRanges), ("feedvault/text.moreRanges", laid_feedvault_text_moreRanges), ("unicode/utf8.first", laid_unicode_utf8_first)] }
def XmltreeWrapsSaid : Prop := xmltreeWrapsRow.holds Tryz.pinned (OpenSpec.ofChange xmltreeWrapsSpec)

/-- ITS FALSE NEIGHBOUR: 'it returns false'. Refute it at one input. -/
def xmltreeWrapsWrong : ChangeSpec := { name := "xmltreeWraps", fn := fun _ => fun
  | [d] => { results := [.lit (.bool false)], args := [d] }
  | _ => none }
def XmltreeWrapsWrongFalsely : Prop := xmltreeWrapsRow.holds Tryz.pinned (OpenSpec.ofChange xmltreeWrapsWrong)

/-- 'feedvaultlaw07.XmltreeDepth': WHATEVER THE INPUT: true; the input reads as it did. -/
def xmltreeDepthSpec : ChangeSpec := { name := "xmltreeDepth", fn := fun _ => fun
  | [d1, d2] => { results := [.lit (.bool true)], args := [d1, d2] }
  | _ => none }
def xmltreeDepthRow : OpenClaim := { program := "ytclhdppppgjgfaagreatdoor", sum := "e6a3745dfbb598336dbbc7b0433211f89d95e463bc7dd17128488d7a26cbb154", func := "feedvault/feedvaultlaw07.XmltreeDepth", spec := "xmltreeDepth", inPlace := ["internal/abi.NoEscape", "internal/bytealg.MakeNoZero", "internal/bytealg.IndexByteString", "internal/bytealg.IndexString", "internal/bytealg.CountString", "sync/atomic.LoadUint32", "(*internal/sync.Mutex).Lock", "internal/race.Disable", "sync/atomic.CompareAndSwapInt32", "internal/race.Enable", "internal/race.Acquire", "(*internal/sync.Mutex).lockSlow", "internal/sync.runtime_canSpin", "internal/sync.runtime_doSpin", "internal/sync.throw", "internal/sync.runtime_nanotime", "internal/sync.runtime_SemacquireMutex", "sync/atomic.AddInt32", "(*internal/sync.Mutex).Unlock", "internal/race.ReleaseMerge", "(*internal/sync.Mutex).unlockSlow", "internal/sync.fatal", "internal/sync.runtime_Semrelease", "sync/atomic.StoreUint32"], unfollowed := true, recurses := true, named := ["unicode/utf8.first", "unicode/utf8.acceptRanges", "internal/bytealg.MaxLen", "feedvault/text.moreRanges", "feedvault/text.startRanges"], apart := false, laid := [("unicode/utf8.acceptRanges", laid_unicode_utf8_acceptRanges), ("feedvault/text.startRanges", laid_feedvault_text_startRanges), ("feedvault/text.moreRanges", laid_feedvault_text_moreRanges), ("unicode/utf8.first", laid_unicode_utf8_first)] }
def XmltreeDepthSaid : Prop := xmltreeDepthRow.holds Tryz.pinned (OpenSpec.ofChange xmltreeDepthSpec)

/-- ITS FALSE NEIGHBOUR: 'it returns false'. Refute it at one input. -/
def xmltreeDepthWrong : ChangeSpec := { name := "xmltreeDepth", fn := fun _ => fun
  | [d1, d2] => { results := [.lit (.bool false)], args := [d1, d2] }
  | _ => none }
def XmltreeDepthWrongFalsely : Prop := xmltreeDepthRow.holds Tryz.pinned (OpenSpec.ofChange xmltreeDepthWrong)

/-- 'feedvaultlaw09.XmlwriteRoundTrip': WHATEVER THE INPUT: true; the input reads as it did. -/
def xmlwriteRoundTripSpec : ChangeSpec := { name := "xmlwriteRoundTrip", fn := fun _ => fun
  | [d] => { results := [.lit (.bool true)], args := [d] }
  | _ => none }
def xmlwriteRoundTripRow : OpenClaim := { program := "ytclhdppppgjgfaagreatdoor", sum := "e6a3745dfbb598336dbbc7b0433211f89d95e463bc7dd17128488d7a26cbb154", func := "feedvault/feedvaultlaw09.XmlwriteRoundTrip", spec := "xmlwriteRoundTrip", inPlace := ["internal/abi.NoEscape", "internal/bytealg.IndexByteString", "internal/bytealg.IndexString", "internal/bytealg.CountString", "internal/bytealg.MakeNoZero", "sync/atomic.LoadUint32", "(*internal/sync.Mutex).Lock", "internal/race.Disable", "sync/atomic.CompareAndSwapInt32", "internal/race.Enable", "internal/race.Acquire", "(*internal/sync.Mutex).lockSlow", "internal/sync.runtime_canSpin", "internal/sync.runtime_doSpin", "internal/sync.throw", "internal/sync.runtime_nanotime", "internal/sync.runtime_SemacquireMutex", "sync/atomic.AddInt32", "(*internal/sync.Mutex).Unlock", "internal/race.ReleaseMerge", "(*internal/sync.Mutex).unlockSlow", "internal/sync.fatal", "internal/sync.runtime_Semrelease", "sync/atomic.StoreUint32"], unfollowed := true, recurses := true, named := ["unicode/utf8.first", "unicode/utf8.acceptRanges", "feedvault/text.moreRanges", "feedvault/text.startRanges", "internal/bytealg.MaxLen"], loops := true, apart := false, laid := [("unicode/utf8.acceptRanges", laid_unicode_utf8_acceptRanges), ("feedvault/text.startRanges", laid_feedvault_text_startRanges), ("feedvault/text.moreRanges", laid_feedvault_text_moreRanges), ("unicode/utf8.first", laid_unicode_utf8_first)] }
def XmlwriteRoundTripSaid : Prop := xmlwriteRoundTripRow.holds Tryz.pinned (OpenSpec.ofChange xmlwriteRoundTripSpec)

/-- ITS FALSE NEIGHBOUR: 'it returns false'. Refute it at one input. -/
def xmlwriteRoundTripWrong : ChangeSpec := { name := "xmlwriteRoundTrip", fn := fun _ => fun
  | [d] => { results := [.lit (.bool false)], args := [d] }
  | _ => none }
def XmlwriteRoundTripWrongFalsely : Prop := xmlwriteRoundTripRow.holds Tryz.pinned (OpenSpec.ofChange xmlwriteRoundTripWrong)

/-- 'feedvaultlaw09.XmlwriteParsed': WHATEVER THE INPUT: true; the input reads as it did. -/
def xmlwriteParsedSpec : ChangeSpec := { name := "xmlwriteParsed", fn := fun _ => fun
  | [d] => { results := [.lit (.bool true)], args := [d] }
  | _ => none }
def xmlwriteParsedRow : OpenClaim := { program := "ytclhdppppgjgfaagreatdoor", sum := "e6a3745dfbb598336dbbc7b0433211f89d95e463bc7dd17128488d7a26cbb154", func := "feedvault/feedvaultlaw09.XmlwriteParsed", spec := "xmlwriteParsed", inPlace := ["internal/abi.NoEscape", "internal/bytealg.IndexByteString", "internal/bytealg.IndexString", "internal/bytealg.CountString", "internal/bytealg.MakeNoZero", "sync/atomic.LoadUint32", "(*internal/sync.Mutex).Lock", "internal/race.Disable", "sync/atomic.CompareAndSwapInt32", "internal/race.Enable", "internal/race.Acquire", "(*internal/sync.Mutex).lockSlow", "internal/sync.runtime_canSpin", "internal/sync.runtime_doSpin", "internal/sync.throw", "internal/sync.runtime_nanotime", "internal/sync.runtime_SemacquireMutex", "sync/atomic.AddInt32", "(*internal/sync.Mutex).Unlock", "internal/race.ReleaseMerge", "(*internal/sync.Mutex).unlockSlow", "internal/sync.fatal", "internal/sync.runtime_Semrelease", "sync/atomic.StoreUint32"], unfollowed := true, recurses := true, named := ["unicode/utf8.first", "unicode/utf8.acceptRanges", "feedvault/text.moreRanges", "feedvault/text.startRanges", "internal/bytealg.MaxLen"], apart := false, laid := [("unicode/utf8.acceptRanges", laid_unicode_utf8_acceptRanges), ("feedvault/text.startRanges", laid_feedvault_text_startRanges), ("feedvault/text.moreRanges", laid_feedvault_text_moreRanges), ("unicode/utf8.first", laid_unicode_utf8_first)] }
def XmlwriteParsedSaid : Prop := xmlwriteParsedRow.holds Tryz.pinned (OpenSpec.ofChange xmlwriteParsedSpec)

/-- ITS FALSE NEIGHBOUR: 'it returns false'. Refute it at one input. -/
def xmlwriteParsedWrong : ChangeSpec := { name := "xmlwriteParsed", fn := fun _ => fun
  | [d] => { results := [.lit (.bool false)], args := [d] }
  | _ => none }
def XmlwriteParsedWrongFalsely : Prop := xmlwriteParsedRow.holds Tryz.pinned (OpenSpec.ofChange xmlwriteParsedWrong)

/- THE SECOND FORM. 'bulk': how many values and letters a reading holds, each counted each time it is reached (what is shared counts as often as it is met; a slice's spare places count too). A statement '..UptoSaid' is the law's where the arguments, and the package variables that the reading takes, are together of bulk at most 1048576: NARROWER than '..Said'. Prove '..Said' where nothing that the law and all that it calls make is longer than what came in: it says more and counts as full. Else prove '..UptoSaid'. A law counts once. -/
mutual
def uptoBulk {H : Type} : DataW H → Nat
  | .lit (.string bytes) => bytes.length + 1
  | .lit _ => 1
  | .nil => 1
  | .ptr d => uptoBulk d + 1
  | .slice elems spare => uptoBulkAll elems + uptoBulkAll spare + 1
  | .agg parts => uptoBulkAll parts + 1
  | .iface _ d => uptoBulk d + 1
  | .map entries => uptoBulkEntries entries + 1
  | .held _ => 1
def uptoBulkAll {H : Type} : List (DataW H) → Nat
  | [] => 0
  | d :: r => uptoBulk d + uptoBulkAll r
def uptoBulkEntries {H : Type} : List (Lit × DataW H) → Nat
  | [] => 0
  | x :: r => uptoBulkEntry x + uptoBulkEntries r
def uptoBulkEntry {H : Type} : Lit × DataW H → Nat
  | (.string bytes, d) => bytes.length + uptoBulk d + 1
  | (_, d) => uptoBulk d + 1
 end
def uptoSmall : (H : Type) → List (DataW H) → Bool := fun _ ds => decide (uptoBulkAll ds ≤ 1048576)
def OpenSpec.upto (s : _root_.Go.ChangeSpec) : _root_.Go.OpenSpec := { _root_.Go.OpenSpec.ofChange s with cond := some uptoSmall }

/-- 'feedvaultlaw07.XmltreeMatchesReference', WHERE WHAT IT READS IS OF BULK AT MOST 1048576: true; the input reads as it did. -/
def xmltreeMatchesReferenceUptoRow : OpenClaim := { program := "ytclhdppppgjgfaagreatdoor", sum := "e6a3745dfbb598336dbbc7b0433211f89d95e463bc7dd17128488d7a26cbb154", func := "feedvault/feedvaultlaw07.XmltreeMatchesReference", spec := "xmltreeMatchesReference", inPlace := ["internal/bytealg.IndexByteString", "internal/bytealg.IndexString", "internal/bytealg.CountString", "internal/abi.NoEscape", "internal/bytealg.MakeNoZero", "sync/atomic.LoadUint32", "(*internal/sync.Mutex).Lock", "internal/race.Disable", "sync/atomic.CompareAndSwapInt32", "internal/race.Enable", "internal/race.Acquire", "(*internal/sync.Mutex).lockSlow", "internal/sync.runtime_canSpin", "internal/sync.runtime_doSpin", "internal/sync.throw", "internal/sync.runtime_nanotime", "internal/sync.runtime_SemacquireMutex", "sync/atomic.AddInt32", "(*internal/sync.Mutex).Unlock", "internal/race.ReleaseMerge", "(*internal/sync.Mutex).unlockSlow", "internal/sync.fatal", "internal/sync.runtime_Semrelease", "sync/atomic.StoreUint32"], unfollowed := true, recurses := true, named := ["unicode/utf8.first", "unicode/utf8.acceptRanges", "internal/bytealg.MaxLen", "feedvault/text.moreRanges", "feedvault/text.startRanges"], apart := false, laid := [("unicode/utf8.acceptRanges", laid_unicode_utf8_acceptRanges), ("feedvault/text.startRanges", laid_feedvault_text_startRanges), ("feedvault/text.moreRanges", laid_feedvault_text_moreRanges), ("unicode/utf8.first", laid_unicode_utf8_first)], narrowed := true }
def XmltreeMatchesReferenceUptoSaid : Prop := xmltreeMatchesReferenceUptoRow.holds Tryz.pinned (OpenSpec.upto xmltreeMatchesReferenceSpec)

/-- 'feedvaultlaw07.XmltreeFunctions', WHERE WHAT IT READS IS OF BULK AT MOST 1048576: true; the input reads as it did. -/
def xmltreeFunctionsUptoRow : OpenClaim := { program := "ytclhdppppgjgfaagreatdoor", sum := "e6a3745dfbb598336dbbc7b0433211f89d95e463bc7dd17128488d7a26cbb154", func := "feedvault/feedvaultlaw07.XmltreeFunctions", spec := "xmltreeFunctions", inPlace := ["internal/bytealg.IndexByteString", "internal/bytealg.IndexString", "internal/bytealg.CountString", "internal/abi.NoEscape", "internal/bytealg.MakeNoZero", "sync/atomic.LoadUint32", "(*internal/sync.Mutex).Lock", "internal/race.Disable", "sync/atomic.CompareAndSwapInt32", "internal/race.Enable", "internal/race.Acquire", "(*internal/sync.Mutex).lockSlow", "internal/sync.runtime_canSpin", "internal/sync.runtime_doSpin", "internal/sync.throw", "internal/sync.runtime_nanotime", "internal/sync.runtime_SemacquireMutex", "sync/atomic.AddInt32", "(*internal/sync.Mutex).Unlock", "internal/race.ReleaseMerge", "(*internal/sync.Mutex).unlockSlow", "internal/sync.fatal", "internal/sync.runtime_Semrelease", "sync/atomic.StoreUint32"], unfollowed := true, recurses := true, named := ["unicode/utf8.first", "unicode/utf8.acceptRanges", "internal/bytealg.MaxLen", "feedvault/text.moreRanges", "feedvault/text.startRanges"], loops := true, apart := false, laid := [("unicode/utf8.acceptRanges", laid_unicode_utf8_acceptRanges), ("feedvault/text.startRanges", laid_feedvault_text_startRanges), ("feedvault/text.moreRanges", laid_feedvault_text_moreRanges), ("unicode/utf8.first", laid_unicode_utf8_first)], narrowed := true }
def XmltreeFunctionsUptoSaid : Prop := xmltreeFunctionsUptoRow.holds Tryz.pinned (OpenSpec.upto xmltreeFunctionsSpec)

/-- 'feedvaultlaw07.XmltreeIsNormal', WHERE WHAT IT READS IS OF BULK AT MOST 1048576: true; the input reads as it did. -/
def xmltreeIsNormalUptoRow : OpenClaim := { program := "ytclhdppppgjgfaagreatdoor", sum := "e6a3745dfbb598336dbbc7b0433211f89d95e463bc7dd17128488d7a26cbb154", func := "feedvault/feedvaultlaw07.XmltreeIsNormal", spec := "xmltreeIsNormal", inPlace := ["internal/bytealg.IndexByteString", "internal/bytealg.IndexString", "internal/bytealg.CountString", "internal/abi.NoEscape", "internal/bytealg.MakeNoZero", "sync/atomic.LoadUint32", "(*internal/sync.Mutex).Lock", "internal/race.Disable", "sync/atomic.CompareAndSwapInt32", "internal/race.Enable", "internal/race.Acquire", "(*internal/sync.Mutex).lockSlow", "internal/sync.runtime_canSpin", "internal/sync.runtime_doSpin", "internal/sync.throw", "internal/sync.runtime_nanotime", "internal/sync.runtime_SemacquireMutex", "sync/atomic.AddInt32", "(*internal/sync.Mutex).Unlock", "internal/race.ReleaseMerge", "(*internal/sync.Mutex).unlockSlow", "internal/sync.fatal", "internal/sync.runtime_Semrelease", "sync/atomic.StoreUint32"], unfollowed := true, recurses := true, named := ["unicode/utf8.first", "unicode/utf8.acceptRanges", "internal/bytealg.MaxLen", "feedvault/text.moreRanges", "feedvault/text.startRanges"], apart := false, laid := [("unicode/utf8.acceptRanges", laid_unicode_utf8_acceptRanges), ("feedvault/text.startRanges", laid_feedvault_text_startRanges), ("feedvault/text.moreRanges", laid_feedvault_text_moreRanges), ("unicode/utf8.first", laid_unicode_utf8_first)], narrowed := true }
def XmltreeIsNormalUptoSaid : Prop := xmltreeIsNormalUptoRow.holds Tryz.pinned (OpenSpec.upto xmltreeIsNormalSpec)

/-- 'feedvaultlaw07.XmltreeIsolated', WHERE WHAT IT READS IS OF BULK AT MOST 1048576: true; the input reads as it did. -/
def xmltreeIsolatedUptoRow : OpenClaim := { program := "ytclhdppppgjgfaagreatdoor", sum := "e6a3745dfbb598336dbbc7b0433211f89d95e463bc7dd17128488d7a26cbb154", func := "feedvault/feedvaultlaw07.XmltreeIsolated", spec := "xmltreeIsolated", inPlace := ["internal/bytealg.IndexByteString", "internal/bytealg.IndexString", "internal/bytealg.CountString", "internal/abi.NoEscape", "internal/bytealg.MakeNoZero", "sync/atomic.LoadUint32", "(*internal/sync.Mutex).Lock", "internal/race.Disable", "sync/atomic.CompareAndSwapInt32", "internal/race.Enable", "internal/race.Acquire", "(*internal/sync.Mutex).lockSlow", "internal/sync.runtime_canSpin", "internal/sync.runtime_doSpin", "internal/sync.throw", "internal/sync.runtime_nanotime", "internal/sync.runtime_SemacquireMutex", "sync/atomic.AddInt32", "(*internal/sync.Mutex).Unlock", "internal/race.ReleaseMerge", "(*internal/sync.Mutex).unlockSlow", "internal/sync.fatal", "internal/sync.runtime_Semrelease", "sync/atomic.StoreUint32"], unfollowed := true, recurses := true, named := ["unicode/utf8.first", "unicode/utf8.acceptRanges", "internal/bytealg.MaxLen", "feedvault/text.moreRanges", "feedvault/text.startRanges"], apart := false, laid := [("unicode/utf8.acceptRanges", laid_unicode_utf8_acceptRanges), ("feedvault/text.startRanges", laid_feedvault_text_startRanges), ("feedvault/text.moreRanges", laid_feedvault_text_moreRanges), ("unicode/utf8.first", laid_unicode_utf8_first)], narrowed := true }
def XmltreeIsolatedUptoSaid : Prop := xmltreeIsolatedUptoRow.holds Tryz.pinned (OpenSpec.upto xmltreeIsolatedSpec)

/-- 'feedvaultlaw07.XmltreeWraps', WHERE WHAT IT READS IS OF BULK AT MOST 1048576: true; the input reads as it did. -/
def xmltreeWrapsUptoRow : OpenClaim := { program := "ytclhdppppgjgfaagreatdoor", sum := "e6a3745dfbb598336dbbc7b0433211f89d95e463bc7dd17128488d7a26cbb154", func := "feedvault/feedvaultlaw07.XmltreeWraps", spec := "xmltreeWraps", inPlace := ["internal/bytealg.IndexByteString", "internal/bytealg.IndexString", "internal/bytealg.CountString", "internal/abi.NoEscape", "internal/bytealg.MakeNoZero", "sync/atomic.LoadUint32", "(*internal/sync.Mutex).Lock", "internal/race.Disable", "sync/atomic.CompareAndSwapInt32", "internal/race.Enable", "internal/race.Acquire", "(*internal/sync.Mutex).lockSlow", "internal/sync.runtime_canSpin", "internal/sync.runtime_doSpin", "internal/sync.throw", "internal/sync.runtime_nanotime", "internal/sync.runtime_SemacquireMutex", "sync/atomic.AddInt32", "(*internal/sync.Mutex).Unlock", "internal/race.ReleaseMerge", "(*internal/sync.Mutex).unlockSlow", "internal/sync.fatal", "internal/sync.runtime_Semrelease", "sync/atomic.StoreUint32"], unfollowed := true, recurses := true, named := ["unicode/utf8.first", "unicode/utf8.acceptRanges", "internal/bytealg.MaxLen", "feedvault/text.moreRanges", "feedvault/text.startRanges"], apart := false, laid := [("unicode/utf8.acceptRanges", laid_unicode_utf8_acceptRanges), ("feedvault/text.startRanges", laid_feedvault_text_startRanges), ("feedvault/text.moreRanges", laid_feedvault_text_moreRanges), ("unicode/utf8.first", laid_unicode_utf8_first)], narrowed := true }
def XmltreeWrapsUptoSaid : Prop := xmltreeWrapsUptoRow.holds Tryz.pinned (OpenSpec.upto xmltreeWrapsSpec)

/-- 'feedvaultlaw07.XmltreeDepth', WHERE WHAT IT READS IS OF BULK AT MOST 1048576: true; the input reads as it did. -/
def xmltreeDepthUptoRow : OpenClaim := { program := "ytclhdppppgjgfaagreatdoor", sum := "e6a3745dfbb598336dbbc7b0433211f89d95e463bc7dd17128488d7a26cbb154", func := "feedvault/feedvaultlaw07.XmltreeDepth", spec := "xmltreeDepth", inPlace := ["internal/abi.NoEscape", "internal/bytealg.MakeNoZero", "internal/bytealg.IndexByteString", "internal/bytealg.IndexString", "internal/bytealg.CountString", "sync/atomic.LoadUint32", "(*internal/sync.Mutex).Lock", "internal/race.Disable", "sync/atomic.CompareAndSwapInt32", "internal/race.Enable", "internal/race.Acquire", "(*internal/sync.Mutex).lockSlow", "internal/sync.runtime_canSpin", "internal/sync.runtime_doSpin", "internal/sync.throw", "internal/sync.runtime_nanotime", "internal/sync.runtime_SemacquireMutex", "sync/atomic.AddInt32", "(*internal/sync.Mutex).Unlock", "internal/race.ReleaseMerge", "(*internal/sync.Mutex).unlockSlow", "internal/sync.fatal", "internal/sync.runtime_Semrelease", "sync/atomic.StoreUint32"], unfollowed := true, recurses := true, named := ["unicode/utf8.first", "unicode/utf8.acceptRanges", "internal/bytealg.MaxLen", "feedvault/text.moreRanges", "feedvault/text.startRanges"], apart := false, laid := [("unicode/utf8.acceptRanges", laid_unicode_utf8_acceptRanges), ("feedvault/text.startRanges", laid_feedvault_text_startRanges), ("feedvault/text.moreRanges", laid_feedvault_text_moreRanges), ("unicode/utf8.first", laid_unicode_utf8_first)], narrowed := true }
def XmltreeDepthUptoSaid : Prop := xmltreeDepthUptoRow.holds Tryz.pinned (OpenSpec.upto xmltreeDepthSpec)

/-- 'feedvaultlaw09.XmlwriteRoundTrip', WHERE WHAT IT READS IS OF BULK AT MOST 1048576: true; the input reads as it did. -/
def xmlwriteRoundTripUptoRow : OpenClaim := { program := "ytclhdppppgjgfaagreatdoor", sum := "e6a3745dfbb598336dbbc7b0433211f89d95e463bc7dd17128488d7a26cbb154", func := "feedvault/feedvaultlaw09.XmlwriteRoundTrip", spec := "xmlwriteRoundTrip", inPlace := ["internal/abi.NoEscape", "internal/bytealg.IndexByteString", "internal/bytealg.IndexString", "internal/bytealg.CountString", "internal/bytealg.MakeNoZero", "sync/atomic.LoadUint32", "(*internal/sync.Mutex).Lock", "internal/race.Disable", "sync/atomic.CompareAndSwapInt32", "internal/race.Enable", "internal/race.Acquire", "(*internal/sync.Mutex).lockSlow", "internal/sync.runtime_canSpin", "internal/sync.runtime_doSpin", "internal/sync.throw", "internal/sync.runtime_nanotime", "internal/sync.runtime_SemacquireMutex", "sync/atomic.AddInt32", "(*internal/sync.Mutex).Unlock", "internal/race.ReleaseMerge", "(*internal/sync.Mutex).unlockSlow", "internal/sync.fatal", "internal/sync.runtime_Semrelease", "sync/atomic.StoreUint32"], unfollowed := true, recurses := true, named := ["unicode/utf8.first", "unicode/utf8.acceptRanges", "feedvault/text.moreRanges", "feedvault/text.startRanges", "internal/bytealg.MaxLen"], loops := true, apart := false, laid := [("unicode/utf8.acceptRanges", laid_unicode_utf8_acceptRanges), ("feedvault/text.startRanges", laid_feedvault_text_startRanges), ("feedvault/text.moreRanges", laid_feedvault_text_moreRanges), ("unicode/utf8.first", laid_unicode_utf8_first)], narrowed := true }
def XmlwriteRoundTripUptoSaid : Prop := xmlwriteRoundTripUptoRow.holds Tryz.pinned (OpenSpec.upto xmlwriteRoundTripSpec)

/-- 'feedvaultlaw09.XmlwriteParsed', WHERE WHAT IT READS IS OF BULK AT MOST 1048576: true; the input reads as it did. -/
def xmlwriteParsedUptoRow : OpenClaim := { program := "ytclhdppppgjgfaagreatdoor", sum := "e6a3745dfbb598336dbbc7b0433211f89d95e463bc7dd17128488d7a26cbb154", func := "feedvault/feedvaultlaw09.XmlwriteParsed", spec := "xmlwriteParsed", inPlace := ["internal/abi.NoEscape", "internal/bytealg.IndexByteString", "internal/bytealg.IndexString", "internal/bytealg.CountString", "internal/bytealg.MakeNoZero", "sync/atomic.LoadUint32", "(*internal/sync.Mutex).Lock", "internal/race.Disable", "sync/atomic.CompareAndSwapInt32", "internal/race.Enable", "internal/race.Acquire", "(*internal/sync.Mutex).lockSlow", "internal/sync.runtime_canSpin", "internal/sync.runtime_doSpin", "internal/sync.throw", "internal/sync.runtime_nanotime", "internal/sync.runtime_SemacquireMutex", "sync/atomic.AddInt32", "(*internal/sync.Mutex).Unlock", "internal/race.ReleaseMerge", "(*internal/sync.Mutex).unlockSlow", "internal/sync.fatal", "internal/sync.runtime_Semrelease", "sync/atomic.StoreUint32"], unfollowed := true, recurses := true, named := ["unicode/utf8.first", "unicode/utf8.acceptRanges", "feedvault/text.moreRanges", "feedvault/text.startRanges", "internal/bytealg.MaxLen"], apart := false, laid := [("unicode/utf8.acceptRanges", laid_unicode_utf8_acceptRanges), ("feedvault/text.startRanges", laid_feedvault_text_startRanges), ("feedvault/text.moreRanges", laid_feedvault_text_moreRanges), ("unicode/utf8.first", laid_unicode_utf8_first)], narrowed := true }
def XmlwriteParsedUptoSaid : Prop := xmlwriteParsedUptoRow.holds Tryz.pinned (OpenSpec.upto xmlwriteParsedSpec)

end Rows
end Go.Proofs.YtclhdppppgjgfaaGreatDoor
