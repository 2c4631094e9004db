/-
  NARROWER THAN 'FOR EVERY INPUT', by the rows' own cells (each row's printed sentence says how): HeaderTraces: laid · MimeParts: laid · MimeSections: laid · MimeInside: laid · MimeJoins: laid · MimeWhole: laid · ImapfetchMatches: laid · ImapfetchNot: laid · ImapfetchParts: laid · ImapfetchOrder: laid.
  DERIVED. THE GIVEN ROWS OF THIS SEAT. 10 by the template 'for every input the law returns true; each argument reads behind the call as it read before'; 0 by the template 'total and deterministic' (their statements: YtbjbljfmcpidmaaGreatDoorTotals.lean).
  GIVEN WITH THE SEED: the statements are not yours to turn. If you find one false, say at which input.
  Laid BY PROGRAM, IN A SANDBOX (cutbox-rows.mjs): the forced cells as the released guide's own fill.sh prints them over the translation 2724cd5f8564ee9e… (all of the seat's roots in one cut). By AI agents, Wed Nov 11 2026. No macro, syntax, notation, axiom, sorry.
-/
import Derived.Test.YtbjbljfmcpidmaaGreatDoorChecked
import GoSem.PinnedTables
import GoSem.Claim
import GoSem.ClaimJoined
import GoSem.ClaimMapViews
import Derived.JoinedTies
import Derived.KernelRfl
namespace Go.Proofs.YtbjbljfmcpidmaaGreatDoor
/- THE CELL 'sum', in the pinned program and in every row, IS THE sha256 OF THE DUMP (.gsa) THAT YtbjbljfmcpidmaaGreatDoorProg.lean LOADS. Nothing in Lean hashes anything: it is a label: what it is worth is what the hold of that sum in a sandbox is worth. -/
noncomputable def Tryz.pinned : Pinned := { name := "ytbjbljfmcpidmaagreatdoor", sum := "2724cd5f8564ee9e01e703c77edd95d98628e29d1a27d0a32df6a4227c5166b5", checked := Tryz.checked }
namespace Rows
def none {H : Type} : Left H := { results := [], args := [] }

/- WHAT THE LISTED PACKAGE-LEVEL VARIABLES READ AS WHEN THE CALL BEGINS. Each datum BY PROGRAM (the guide's laid-datum.mjs) off the statement by which the dump's own 'gosem.cut.vars' lays the variable. In a bare row this is a premise. The card (YtbjbljfmcpidmaaGreatDoorCards.lean) ties it to the program's text. -/
def laid_math_bits_deBruijn32tab {H : Type} : DataW H := .agg [.lit (.int .u8 0), .lit (.int .u8 1), .lit (.int .u8 28), .lit (.int .u8 2), .lit (.int .u8 29), .lit (.int .u8 14), .lit (.int .u8 24), .lit (.int .u8 3), .lit (.int .u8 30), .lit (.int .u8 22), .lit (.int .u8 20), .lit (.int .u8 15), .lit (.int .u8 25), .lit (.int .u8 17), .lit (.int .u8 4), .lit (.int .u8 8), .lit (.int .u8 31), .lit (.int .u8 27), .lit (.int .u8 13), .lit (.int .u8 23), .lit (.int .u8 21), .lit (.int .u8 19), .lit (.int .u8 16), .lit (.int .u8 7), .lit (.int .u8 26), .lit (.int .u8 12), .lit (.int .u8 18), .lit (.int .u8 6), .lit (.int .u8 11), .lit (.int .u8 5), .lit (.int .u8 10), .lit (.int .u8 9)]
def laid_math_bits_deBruijn64tab {H : Type} : DataW H := .agg [.lit (.int .u8 0), .lit (.int .u8 1), .lit (.int .u8 56), .lit (.int .u8 2), .lit (.int .u8 57), .lit (.int .u8 49), .lit (.int .u8 28), .lit (.int .u8 3), .lit (.int .u8 61), .lit (.int .u8 58), .lit (.int .u8 42), .lit (.int .u8 50), .lit (.int .u8 38), .lit (.int .u8 29), .lit (.int .u8 17), .lit (.int .u8 4), .lit (.int .u8 62), .lit (.int .u8 47), .lit (.int .u8 59), .lit (.int .u8 36), .lit (.int .u8 45), .lit (.int .u8 43), .lit (.int .u8 51), .lit (.int .u8 22), .lit (.int .u8 53), .lit (.int .u8 39), .lit (.int .u8 33), .lit (.int .u8 30), .lit (.int .u8 24), .lit (.int .u8 18), .lit (.int .u8 12), .lit (.int .u8 5), .lit (.int .u8 63), .lit (.int .u8 55), .lit (.int .u8 48), .lit (.int .u8 27), .lit (.int .u8 60), .lit (.int .u8 41), .lit (.int .u8 37), .lit (.int .u8 16), .lit (.int .u8 46), .lit (.int .u8 35), .lit (.int .u8 44), .lit (.int .u8 21), .lit (.int .u8 52), .lit (.int .u8 32), .lit (.int .u8 23), .lit (.int .u8 11), .lit (.int .u8 54), .lit (.int .u8 26), .lit (.int .u8 40), .lit (.int .u8 15), .lit (.int .u8 34), .lit (.int .u8 20), .lit (.int .u8 31), .lit (.int .u8 10), .lit (.int .u8 25), .lit (.int .u8 14), .lit (.int .u8 19), .lit (.int .u8 9), .lit (.int .u8 13), .lit (.int .u8 8), .lit (.int .u8 7), .lit (.int .u8 6)]
def laid_internal_strconv_uint64pow10 {H : Type} : DataW H := .agg [.lit (.int .u64 1), .lit (.int .u64 10), .lit (.int .u64 100), .lit (.int .u64 1000), .lit (.int .u64 10000), .lit (.int .u64 100000), .lit (.int .u64 1000000), .lit (.int .u64 10000000), .lit (.int .u64 100000000), .lit (.int .u64 1000000000), .lit (.int .u64 10000000000), .lit (.int .u64 100000000000), .lit (.int .u64 1000000000000), .lit (.int .u64 10000000000000), .lit (.int .u64 100000000000000), .lit (.int .u64 1000000000000000), .lit (.int .u64 10000000000000000), .lit (.int .u64 100000000000000000), .lit (.int .u64 1000000000000000000), .lit (.int .u64 10000000000000000000)]
def laid_unicode_utf8_acceptRanges {H : Type} : DataW H := .agg [.agg [.lit (.int .u8 128), .lit (.int .u8 191)], .agg [.lit (.int .u8 160), .lit (.int .u8 191)], .agg [.lit (.int .u8 128), .lit (.int .u8 159)], .agg [.lit (.int .u8 144), .lit (.int .u8 191)], .agg [.lit (.int .u8 128), .lit (.int .u8 143)], .agg [.lit (.int .u8 0), .lit (.int .u8 0)], .agg [.lit (.int .u8 0), .lit (.int .u8 0)], .agg [.lit (.int .u8 0), .lit (.int .u8 0)], .agg [.lit (.int .u8 0), .lit (.int .u8 0)], .agg [.lit (.int .u8 0), .lit (.int .u8 0)], .agg [.lit (.int .u8 0), .lit (.int .u8 0)], .agg [.lit (.int .u8 0), .lit (.int .u8 0)], .agg [.lit (.int .u8 0), .lit (.int .u8 0)], .agg [.lit (.int .u8 0), .lit (.int .u8 0)], .agg [.lit (.int .u8 0), .lit (.int .u8 0)], .agg [.lit (.int .u8 0), .lit (.int .u8 0)]]
def laid_estafette_stamp_lengths {H : Type} : DataW H := .agg [.lit (.int .i64 31), .lit (.int .i64 28), .lit (.int .i64 31), .lit (.int .i64 30), .lit (.int .i64 31), .lit (.int .i64 30), .lit (.int .i64 31), .lit (.int .i64 31), .lit (.int .i64 30), .lit (.int .i64 31), .lit (.int .i64 30), .lit (.int .i64 31)]
/-- One of Go's own tables, pinned by name: the form's constant. -/
def laid_unicode_utf8_first : DataW Unit := Go.Pinned.utf8First

/-- 'estafettelaw10.HeaderTraces': WHATEVER THE INPUT: true; the input reads as it did. -/
def headerTracesSpec : ChangeSpec := { name := "headerTraces", fn := fun _ => fun
  | [d1, d2, d3] => { results := [.lit (.bool true)], args := [d1, d2, d3] }
  | _ => none }
def headerTracesRow : OpenClaim := { program := "ytbjbljfmcpidmaagreatdoor", sum := "2724cd5f8564ee9e01e703c77edd95d98628e29d1a27d0a32df6a4227c5166b5", func := "estafette/estafettelaw10.HeaderTraces", spec := "headerTraces", inPlace := ["internal/bytealg.IndexByte", "internal/bytealg.Index", "internal/bytealg.IndexByteString", "internal/bytealg.IndexString", "internal/abi.NoEscape"], unfollowed := true, recurses := true, named := ["internal/bytealg.MaxLen", "unicode/utf8.first", "unicode/utf8.acceptRanges", "internal/strconv.uint64pow10", "math/bits.deBruijn32tab", "math/bits.deBruijn64tab", "estafette/stamp.lengths"], apart := false, laid := [("math/bits.deBruijn32tab", laid_math_bits_deBruijn32tab), ("math/bits.deBruijn64tab", laid_math_bits_deBruijn64tab), ("internal/strconv.uint64pow10", laid_internal_strconv_uint64pow10), ("unicode/utf8.acceptRanges", laid_unicode_utf8_acceptRanges), ("estafette/stamp.lengths", laid_estafette_stamp_lengths), ("unicode/utf8.first", laid_unicode_utf8_first)] }
def HeaderTracesSaid : Prop := headerTracesRow.holds Tryz.pinned (OpenSpec.ofChange headerTracesSpec)

/-- ITS FALSE NEIGHBOUR: 'it returns false'. Refute it at one input. -/
def headerTracesWrong : ChangeSpec := { name := "headerTraces", fn := fun _ => fun
  | [d1, d2, d3] => { results := [.lit (.bool false)], args := [d1, d2, d3] }
  | _ => none }
def HeaderTracesWrongFalsely : Prop := headerTracesRow.holds Tryz.pinned (OpenSpec.ofChange headerTracesWrong)

/-- 'estafettelaw11.MimeParts': WHATEVER THE INPUT: true; the input reads as it did. -/
def mimePartsSpec : ChangeSpec := { name := "mimeParts", fn := fun _ => fun
  | [d] => { results := [.lit (.bool true)], args := [d] }
  | _ => none }
def mimePartsRow : OpenClaim := { program := "ytbjbljfmcpidmaagreatdoor", sum := "2724cd5f8564ee9e01e703c77edd95d98628e29d1a27d0a32df6a4227c5166b5", func := "estafette/estafettelaw11.MimeParts", spec := "mimeParts", inPlace := ["internal/bytealg.IndexByte", "internal/bytealg.Index", "internal/bytealg.IndexByteString", "internal/bytealg.IndexString", "internal/abi.NoEscape", "internal/bytealg.Count", "internal/bytealg.MakeNoZero"], unfollowed := true, recurses := true, named := ["internal/bytealg.MaxLen", "unicode/utf8.first", "unicode/utf8.acceptRanges", "internal/strconv.uint64pow10", "math/bits.deBruijn32tab", "math/bits.deBruijn64tab"], apart := false, laid := [("math/bits.deBruijn32tab", laid_math_bits_deBruijn32tab), ("math/bits.deBruijn64tab", laid_math_bits_deBruijn64tab), ("internal/strconv.uint64pow10", laid_internal_strconv_uint64pow10), ("unicode/utf8.acceptRanges", laid_unicode_utf8_acceptRanges), ("unicode/utf8.first", laid_unicode_utf8_first)] }
def MimePartsSaid : Prop := mimePartsRow.holds Tryz.pinned (OpenSpec.ofChange mimePartsSpec)

/-- ITS FALSE NEIGHBOUR: 'it returns false'. Refute it at one input. -/
def mimePartsWrong : ChangeSpec := { name := "mimeParts", fn := fun _ => fun
  | [d] => { results := [.lit (.bool false)], args := [d] }
  | _ => none }
def MimePartsWrongFalsely : Prop := mimePartsRow.holds Tryz.pinned (OpenSpec.ofChange mimePartsWrong)

/-- 'estafettelaw11.MimeSections': WHATEVER THE INPUT: true; the input reads as it did. -/
def mimeSectionsSpec : ChangeSpec := { name := "mimeSections", fn := fun _ => fun
  | [d1, d2, d3] => { results := [.lit (.bool true)], args := [d1, d2, d3] }
  | _ => none }
def mimeSectionsRow : OpenClaim := { program := "ytbjbljfmcpidmaagreatdoor", sum := "2724cd5f8564ee9e01e703c77edd95d98628e29d1a27d0a32df6a4227c5166b5", func := "estafette/estafettelaw11.MimeSections", spec := "mimeSections", inPlace := ["internal/bytealg.IndexByte", "internal/bytealg.Index", "internal/bytealg.IndexByteString", "internal/bytealg.IndexString", "internal/abi.NoEscape", "internal/bytealg.Count", "internal/bytealg.MakeNoZero"], unfollowed := true, recurses := true, named := ["internal/bytealg.MaxLen", "unicode/utf8.first", "unicode/utf8.acceptRanges", "internal/strconv.uint64pow10", "math/bits.deBruijn32tab", "math/bits.deBruijn64tab"], apart := false, laid := [("math/bits.deBruijn32tab", laid_math_bits_deBruijn32tab), ("math/bits.deBruijn64tab", laid_math_bits_deBruijn64tab), ("internal/strconv.uint64pow10", laid_internal_strconv_uint64pow10), ("unicode/utf8.acceptRanges", laid_unicode_utf8_acceptRanges), ("unicode/utf8.first", laid_unicode_utf8_first)] }
def MimeSectionsSaid : Prop := mimeSectionsRow.holds Tryz.pinned (OpenSpec.ofChange mimeSectionsSpec)

/-- ITS FALSE NEIGHBOUR: 'it returns false'. Refute it at one input. -/
def mimeSectionsWrong : ChangeSpec := { name := "mimeSections", fn := fun _ => fun
  | [d1, d2, d3] => { results := [.lit (.bool false)], args := [d1, d2, d3] }
  | _ => none }
def MimeSectionsWrongFalsely : Prop := mimeSectionsRow.holds Tryz.pinned (OpenSpec.ofChange mimeSectionsWrong)

/-- 'estafettelaw11.MimeInside': WHATEVER THE INPUT: true; the input reads as it did. -/
def mimeInsideSpec : ChangeSpec := { name := "mimeInside", fn := fun _ => fun
  | [d] => { results := [.lit (.bool true)], args := [d] }
  | _ => none }
def mimeInsideRow : OpenClaim := { program := "ytbjbljfmcpidmaagreatdoor", sum := "2724cd5f8564ee9e01e703c77edd95d98628e29d1a27d0a32df6a4227c5166b5", func := "estafette/estafettelaw11.MimeInside", spec := "mimeInside", inPlace := ["internal/bytealg.IndexByte", "internal/bytealg.Index", "internal/bytealg.IndexByteString", "internal/bytealg.IndexString", "internal/abi.NoEscape", "internal/bytealg.Count", "internal/bytealg.MakeNoZero"], unfollowed := true, recurses := true, named := ["internal/bytealg.MaxLen", "unicode/utf8.first", "unicode/utf8.acceptRanges", "internal/strconv.uint64pow10", "math/bits.deBruijn32tab", "math/bits.deBruijn64tab"], apart := false, laid := [("math/bits.deBruijn32tab", laid_math_bits_deBruijn32tab), ("math/bits.deBruijn64tab", laid_math_bits_deBruijn64tab), ("internal/strconv.uint64pow10", laid_internal_strconv_uint64pow10), ("unicode/utf8.acceptRanges", laid_unicode_utf8_acceptRanges), ("unicode/utf8.first", laid_unicode_utf8_first)] }
def MimeInsideSaid : Prop := mimeInsideRow.holds Tryz.pinned (OpenSpec.ofChange mimeInsideSpec)

/-- ITS FALSE NEIGHBOUR: 'it returns false'. Refute it at one input. -/
def mimeInsideWrong : ChangeSpec := { name := "mimeInside", fn := fun _ => fun
  | [d] => { results := [.lit (.bool false)], args := [d] }
  | _ => none }
def MimeInsideWrongFalsely : Prop := mimeInsideRow.holds Tryz.pinned (OpenSpec.ofChange mimeInsideWrong)

/-- 'estafettelaw11.MimeJoins': WHATEVER THE INPUT: true; the input reads as it did. -/
def mimeJoinsSpec : ChangeSpec := { name := "mimeJoins", fn := fun _ => fun
  | [d] => { results := [.lit (.bool true)], args := [d] }
  | _ => none }
def mimeJoinsRow : OpenClaim := { program := "ytbjbljfmcpidmaagreatdoor", sum := "2724cd5f8564ee9e01e703c77edd95d98628e29d1a27d0a32df6a4227c5166b5", func := "estafette/estafettelaw11.MimeJoins", spec := "mimeJoins", inPlace := ["internal/bytealg.IndexByte", "internal/bytealg.Index", "internal/bytealg.IndexByteString", "internal/bytealg.IndexString", "internal/abi.NoEscape", "internal/bytealg.Count", "internal/bytealg.MakeNoZero"], unfollowed := true, recurses := true, named := ["internal/bytealg.MaxLen", "unicode/utf8.first", "unicode/utf8.acceptRanges", "internal/strconv.uint64pow10", "math/bits.deBruijn32tab", "math/bits.deBruijn64tab"], apart := false, laid := [("math/bits.deBruijn32tab", laid_math_bits_deBruijn32tab), ("math/bits.deBruijn64tab", laid_math_bits_deBruijn64tab), ("internal/strconv.uint64pow10", laid_internal_strconv_uint64pow10), ("unicode/utf8.acceptRanges", laid_unicode_utf8_acceptRanges), ("unicode/utf8.first", laid_unicode_utf8_first)] }
def MimeJoinsSaid : Prop := mimeJoinsRow.holds Tryz.pinned (OpenSpec.ofChange mimeJoinsSpec)

/-- ITS FALSE NEIGHBOUR: 'it returns false'. Refute it at one input. -/
def mimeJoinsWrong : ChangeSpec := { name := "mimeJoins", fn := fun _ => fun
  | [d] => { results := [.lit (.bool false)], args := [d] }
  | _ => none }
def MimeJoinsWrongFalsely : Prop := mimeJoinsRow.holds Tryz.pinned (OpenSpec.ofChange mimeJoinsWrong)

/-- 'estafettelaw11.MimeWhole': WHATEVER THE INPUT: true; the input reads as it did. -/
def mimeWholeSpec : ChangeSpec := { name := "mimeWhole", fn := fun _ => fun
  | [d] => { results := [.lit (.bool true)], args := [d] }
  | _ => none }
def mimeWholeRow : OpenClaim := { program := "ytbjbljfmcpidmaagreatdoor", sum := "2724cd5f8564ee9e01e703c77edd95d98628e29d1a27d0a32df6a4227c5166b5", func := "estafette/estafettelaw11.MimeWhole", spec := "mimeWhole", inPlace := ["internal/bytealg.IndexByte", "internal/bytealg.Index", "internal/bytealg.IndexByteString", "internal/bytealg.IndexString", "internal/abi.NoEscape", "internal/bytealg.Count", "internal/bytealg.MakeNoZero"], unfollowed := true, recurses := true, named := ["internal/bytealg.MaxLen", "unicode/utf8.first", "unicode/utf8.acceptRanges", "internal/strconv.uint64pow10", "math/bits.deBruijn32tab", "math/bits.deBruijn64tab"], apart := false, laid := [("math/bits.deBruijn32tab", laid_math_bits_deBruijn32tab), ("math/bits.deBruijn64tab", laid_math_bits_deBruijn64tab), ("internal/strconv.uint64pow10", laid_internal_strconv_uint64pow10), ("unicode/utf8.acceptRanges", laid_unicode_utf8_acceptRanges), ("unicode/utf8.first", laid_unicode_utf8_first)] }
def MimeWholeSaid : Prop := mimeWholeRow.holds Tryz.pinned (OpenSpec.ofChange mimeWholeSpec)

/-- ITS FALSE NEIGHBOUR: 'it returns false'. Refute it at one input. -/
def mimeWholeWrong : ChangeSpec := { name := "mimeWhole", fn := fun _ => fun
  | [d] => { results := [.lit (.bool false)], args := [d] }
  | _ => none }
def MimeWholeWrongFalsely : Prop := mimeWholeRow.holds Tryz.pinned (OpenSpec.ofChange mimeWholeWrong)

/-- 'estafettelaw21.ImapfetchMatches': WHATEVER THE INPUT: true; the input reads as it did. -/
def imapfetchMatchesSpec : ChangeSpec := { name := "imapfetchMatches", fn := fun _ => fun
  | [d1, d2, d3] => { results := [.lit (.bool true)], args := [d1, d2, d3] }
  | _ => none }
def imapfetchMatchesRow : OpenClaim := { program := "ytbjbljfmcpidmaagreatdoor", sum := "2724cd5f8564ee9e01e703c77edd95d98628e29d1a27d0a32df6a4227c5166b5", func := "estafette/estafettelaw21.ImapfetchMatches", spec := "imapfetchMatches", inPlace := ["internal/bytealg.IndexByte", "internal/bytealg.Index", "internal/bytealg.IndexByteString", "internal/bytealg.IndexString", "internal/abi.NoEscape", "internal/bytealg.CountString", "internal/bytealg.MakeNoZero", "internal/bytealg.Count"], unfollowed := true, recurses := true, named := ["internal/bytealg.MaxLen", "unicode/utf8.first", "unicode/utf8.acceptRanges", "internal/strconv.uint64pow10", "math/bits.deBruijn32tab", "math/bits.deBruijn64tab", "estafette/stamp.lengths"], apart := false, laid := [("math/bits.deBruijn32tab", laid_math_bits_deBruijn32tab), ("math/bits.deBruijn64tab", laid_math_bits_deBruijn64tab), ("internal/strconv.uint64pow10", laid_internal_strconv_uint64pow10), ("unicode/utf8.acceptRanges", laid_unicode_utf8_acceptRanges), ("estafette/stamp.lengths", laid_estafette_stamp_lengths), ("unicode/utf8.first", laid_unicode_utf8_first)] }
def ImapfetchMatchesSaid : Prop := imapfetchMatchesRow.holds Tryz.pinned (OpenSpec.ofChange imapfetchMatchesSpec)

/-- ITS FALSE NEIGHBOUR: 'it returns false'. Refute it at one input. -/
def imapfetchMatchesWrong : ChangeSpec := { name := "imapfetchMatches", fn := fun _ => fun
  | [d1, d2, d3] => { results := [.lit (.bool false)], args := [d1, d2, d3] }
  | _ => none }
def ImapfetchMatchesWrongFalsely : Prop := imapfetchMatchesRow.holds Tryz.pinned (OpenSpec.ofChange imapfetchMatchesWrong)

/-- 'estafettelaw21.ImapfetchNot': WHATEVER THE INPUT: true; the input reads as it did. -/
def imapfetchNotSpec : ChangeSpec := { name := "imapfetchNot", fn := fun _ => fun
  | [d1, d2, d3] => { results := [.lit (.bool true)], args := [d1, d2, d3] }
  | _ => none }
def imapfetchNotRow : OpenClaim := { program := "ytbjbljfmcpidmaagreatdoor", sum := "2724cd5f8564ee9e01e703c77edd95d98628e29d1a27d0a32df6a4227c5166b5", func := "estafette/estafettelaw21.ImapfetchNot", spec := "imapfetchNot", inPlace := ["internal/bytealg.IndexByte", "internal/bytealg.Index", "internal/bytealg.IndexByteString", "internal/bytealg.IndexString", "internal/abi.NoEscape", "internal/bytealg.CountString", "internal/bytealg.MakeNoZero", "internal/bytealg.Count"], unfollowed := true, recurses := true, named := ["internal/bytealg.MaxLen", "unicode/utf8.first", "unicode/utf8.acceptRanges", "internal/strconv.uint64pow10", "math/bits.deBruijn32tab", "math/bits.deBruijn64tab", "estafette/stamp.lengths"], apart := false, laid := [("math/bits.deBruijn32tab", laid_math_bits_deBruijn32tab), ("math/bits.deBruijn64tab", laid_math_bits_deBruijn64tab), ("internal/strconv.uint64pow10", laid_internal_strconv_uint64pow10), ("unicode/utf8.acceptRanges", laid_unicode_utf8_acceptRanges), ("estafette/stamp.lengths", laid_estafette_stamp_lengths), ("unicode/utf8.first", laid_unicode_utf8_first)] }
def ImapfetchNotSaid : Prop := imapfetchNotRow.holds Tryz.pinned (OpenSpec.ofChange imapfetchNotSpec)

/-- ITS FALSE NEIGHBOUR: 'it returns false'. Refute it at one input. -/
def imapfetchNotWrong : ChangeSpec := { name := "imapfetchNot", fn := fun _ => fun
  | [d1, d2, d3] => { results := [.lit (.bool false)], args := [d1, d2, d3] }
  | _ => none }
def ImapfetchNotWrongFalsely : Prop := imapfetchNotRow.holds Tryz.pinned (OpenSpec.ofChange imapfetchNotWrong)

/-- 'estafettelaw21.ImapfetchParts': WHATEVER THE INPUT: true; the input reads as it did. -/
def imapfetchPartsSpec : ChangeSpec := { name := "imapfetchParts", fn := fun _ => fun
  | [d1, d2] => { results := [.lit (.bool true)], args := [d1, d2] }
  | _ => none }
def imapfetchPartsRow : OpenClaim := { program := "ytbjbljfmcpidmaagreatdoor", sum := "2724cd5f8564ee9e01e703c77edd95d98628e29d1a27d0a32df6a4227c5166b5", func := "estafette/estafettelaw21.ImapfetchParts", spec := "imapfetchParts", inPlace := ["internal/bytealg.IndexByte", "internal/bytealg.Index", "internal/bytealg.IndexByteString", "internal/bytealg.IndexString", "internal/abi.NoEscape", "internal/bytealg.CountString", "internal/bytealg.MakeNoZero", "internal/bytealg.Count"], unfollowed := true, recurses := true, named := ["internal/bytealg.MaxLen", "unicode/utf8.first", "unicode/utf8.acceptRanges", "internal/strconv.uint64pow10", "math/bits.deBruijn32tab", "math/bits.deBruijn64tab", "estafette/stamp.lengths"], apart := false, laid := [("math/bits.deBruijn32tab", laid_math_bits_deBruijn32tab), ("math/bits.deBruijn64tab", laid_math_bits_deBruijn64tab), ("internal/strconv.uint64pow10", laid_internal_strconv_uint64pow10), ("unicode/utf8.acceptRanges", laid_unicode_utf8_acceptRanges), ("estafette/stamp.lengths", laid_estafette_stamp_lengths), ("unicode/utf8.first", laid_unicode_utf8_first)] }
def ImapfetchPartsSaid : Prop := imapfetchPartsRow.holds Tryz.pinned (OpenSpec.ofChange imapfetchPartsSpec)

/-- ITS FALSE NEIGHBOUR: 'it returns false'. Refute it at one input. -/
def imapfetchPartsWrong : ChangeSpec := { name := "imapfetchParts", fn := fun _ => fun
  | [d1, d2] => { results := [.lit (.bool false)], args := [d1, d2] }
  | _ => none }
def ImapfetchPartsWrongFalsely : Prop := imapfetchPartsRow.holds Tryz.pinned (OpenSpec.ofChange imapfetchPartsWrong)

/-- 'estafettelaw21.ImapfetchOrder': WHATEVER THE INPUT: true; the input reads as it did. -/
def imapfetchOrderSpec : ChangeSpec := { name := "imapfetchOrder", fn := fun _ => fun
  | [d1, d2, d3] => { results := [.lit (.bool true)], args := [d1, d2, d3] }
  | _ => none }
def imapfetchOrderRow : OpenClaim := { program := "ytbjbljfmcpidmaagreatdoor", sum := "2724cd5f8564ee9e01e703c77edd95d98628e29d1a27d0a32df6a4227c5166b5", func := "estafette/estafettelaw21.ImapfetchOrder", spec := "imapfetchOrder", inPlace := ["internal/bytealg.IndexByte", "internal/bytealg.Index", "internal/bytealg.IndexByteString", "internal/bytealg.IndexString", "internal/abi.NoEscape", "internal/bytealg.CountString", "internal/bytealg.MakeNoZero", "internal/bytealg.Count"], unfollowed := true, recurses := true, named := ["internal/bytealg.MaxLen", "unicode/utf8.first", "unicode/utf8.acceptRanges", "internal/strconv.uint64pow10", "math/bits.deBruijn32tab", "math/bits.deBruijn64tab", "estafette/stamp.lengths"], apart := false, laid := [("math/bits.deBruijn32tab", laid_math_bits_deBruijn32tab), ("math/bits.deBruijn64tab", laid_math_bits_deBruijn64tab), ("internal/strconv.uint64pow10", laid_internal_strconv_uint64pow10), ("unicode/utf8.acceptRanges", laid_unicode_utf8_acceptRanges), ("estafette/stamp.lengths", laid_estafette_stamp_lengths), ("unicode/utf8.first", laid_unicode_utf8_first)] }
def ImapfetchOrderSaid : Prop := imapfetchOrderRow.holds Tryz.pinned (OpenSpec.ofChange imapfetchOrderSpec)

/-- ITS FALSE NEIGHBOUR: 'it returns false'. Refute it at one input. -/
def imapfetchOrderWrong : ChangeSpec := { name := "imapfetchOrder", fn := fun _ => fun
  | [d1, d2, d3] => { results := [.lit (.bool false)], args := [d1, d2, d3] }
  | _ => none }
def ImapfetchOrderWrongFalsely : Prop := imapfetchOrderRow.holds Tryz.pinned (OpenSpec.ofChange imapfetchOrderWrong)

/- THE SECOND FORM. 'bulk': how many values and letters a reading holds, each counted each time it is reached (what is shared counts as often as it is met; a slice's spare places count too). A statement '..UptoSaid' is the law's where the arguments, and the package variables that the reading takes, are together of bulk at most 1048576: NARROWER than '..Said'. Prove '..Said' where nothing that the law and all that it calls make is longer than what came in: it says more and counts as full. Else prove '..UptoSaid'. A law counts once. -/
mutual
def uptoBulk {H : Type} : DataW H → Nat
  | .lit (.string bytes) => bytes.length + 1
  | .lit _ => 1
  | .nil => 1
  | .ptr d => uptoBulk d + 1
  | .slice elems spare => uptoBulkAll elems + uptoBulkAll spare + 1
  | .agg parts => uptoBulkAll parts + 1
  | .iface _ d => uptoBulk d + 1
  | .map entries => uptoBulkEntries entries + 1
  | .held _ => 1
def uptoBulkAll {H : Type} : List (DataW H) → Nat
  | [] => 0
  | d :: r => uptoBulk d + uptoBulkAll r
def uptoBulkEntries {H : Type} : List (Lit × DataW H) → Nat
  | [] => 0
  | x :: r => uptoBulkEntry x + uptoBulkEntries r
def uptoBulkEntry {H : Type} : Lit × DataW H → Nat
  | (.string bytes, d) => bytes.length + uptoBulk d + 1
  | (_, d) => uptoBulk d + 1
 end
def uptoSmall : (H : Type) → List (DataW H) → Bool := fun _ ds => decide (uptoBulkAll ds ≤ 1048576)
def OpenSpec.upto (s : _root_.Go.ChangeSpec) : _root_.Go.OpenSpec := { _root_.Go.OpenSpec.ofChange s with cond := some uptoSmall }

/-- 'estafettelaw10.HeaderTraces', WHERE WHAT IT READS IS OF BULK AT MOST 1048576: true; the input reads as it did. -/
def headerTracesUptoRow : OpenClaim := { program := "ytbjbljfmcpidmaagreatdoor", sum := "2724cd5f8564ee9e01e703c77edd95d98628e29d1a27d0a32df6a4227c5166b5", func := "estafette/estafettelaw10.HeaderTraces", spec := "headerTraces", inPlace := ["internal/bytealg.IndexByte", "internal/bytealg.Index", "internal/bytealg.IndexByteString", "internal/bytealg.IndexString", "internal/abi.NoEscape"], unfollowed := true, recurses := true, named := ["internal/bytealg.MaxLen", "unicode/utf8.first", "unicode/utf8.acceptRanges", "internal/strconv.uint64pow10", "math/bits.deBruijn32tab", "math/bits.deBruijn64tab", "estafette/stamp.lengths"], apart := false, laid := [("math/bits.deBruijn32tab", laid_math_bits_deBruijn32tab), ("math/bits.deBruijn64tab", laid_math_bits_deBruijn64tab), ("internal/strconv.uint64pow10", laid_internal_strconv_uint64pow10), ("unicode/utf8.acceptRanges", laid_unicode_utf8_acceptRanges), ("estafette/stamp.lengths", laid_estafette_stamp_lengths), ("unicode/utf8.first", laid_unicode_utf8_first)], narrowed := true }
def HeaderTracesUptoSaid : Prop := headerTracesUptoRow.holds Tryz.pinned (OpenSpec.upto headerTracesSpec)

/-- 'estafettelaw11.MimeParts', WHERE WHAT IT READS IS OF BULK AT MOST 1048576: true; the input reads as it did. -/
def mimePartsUptoRow : OpenClaim := { program := "ytbjbljfmcpidmaagreatdoor", sum := "2724cd5f8564ee9e01e703c77edd95d98628e29d1a27d0a32df6a4227c5166b5", func := "estafette/estafettelaw11.MimeParts", spec := "mimeParts", inPlace := ["internal/bytealg.IndexByte", "internal/bytealg.Index", "internal/bytealg.IndexByteString", "internal/bytealg.IndexString", "internal/abi.NoEscape", "internal/bytealg.Count", "internal/bytealg.MakeNoZero"], unfollowed := true, recurses := true, named := ["internal/bytealg.MaxLen", "unicode/utf8.first", "unicode/utf8.acceptRanges", "internal/strconv.uint64pow10", "math/bits.deBruijn32tab", "math/bits.deBruijn64tab"], apart := false, laid := [("math/bits.deBruijn32tab", laid_math_bits_deBruijn32tab), ("math/bits.deBruijn64tab", laid_math_bits_deBruijn64tab), ("internal/strconv.uint64pow10", laid_internal_strconv_uint64pow10), ("unicode/utf8.acceptRanges", laid_unicode_utf8_acceptRanges), ("unicode/utf8.first", laid_unicode_utf8_first)], narrowed := true }
def MimePartsUptoSaid : Prop := mimePartsUptoRow.holds Tryz.pinned (OpenSpec.upto mimePartsSpec)

/-- 'estafettelaw11.MimeSections', WHERE WHAT IT READS IS OF BULK AT MOST 1048576: true; the input reads as it did. -/
def mimeSectionsUptoRow : OpenClaim := { program := "ytbjbljfmcpidmaagreatdoor", sum := "2724cd5f8564ee9e01e703c77edd95d98628e29d1a27d0a32df6a4227c5166b5", func := "estafette/estafettelaw11.MimeSections", spec := "mimeSections", inPlace := ["internal/bytealg.IndexByte", "internal/bytealg.Index", "internal/bytealg.IndexByteString", "internal/bytealg.IndexString", "internal/abi.NoEscape", "internal/bytealg.Count", "internal/bytealg.MakeNoZero"], unfollowed := true, recurses := true, named := ["internal/bytealg.MaxLen", "unicode/utf8.first", "unicode/utf8.acceptRanges", "internal/strconv.uint64pow10", "math/bits.deBruijn32tab", "math/bits.deBruijn64tab"], apart := false, laid := [("math/bits.deBruijn32tab", laid_math_bits_deBruijn32tab), ("math/bits.deBruijn64tab", laid_math_bits_deBruijn64tab), ("internal/strconv.uint64pow10", laid_internal_strconv_uint64pow10), ("unicode/utf8.acceptRanges", laid_unicode_utf8_acceptRanges), ("unicode/utf8.first", laid_unicode_utf8_first)], narrowed := true }
def MimeSectionsUptoSaid : Prop := mimeSectionsUptoRow.holds Tryz.pinned (OpenSpec.upto mimeSectionsSpec)

/-- 'estafettelaw11.MimeInside', WHERE WHAT IT READS IS OF BULK AT MOST 1048576: true; the input reads as it did. -/
def mimeInsideUptoRow : OpenClaim := { program := "ytbjbljfmcpidmaagreatdoor", sum := "2724cd5f8564ee9e01e703c77edd95d98628e29d1a27d0a32df6a4227c5166b5", func := "estafette/estafettelaw11.MimeInside", spec := "mimeInside", inPlace := ["internal/bytealg.IndexByte", "internal/bytealg.Index", "internal/bytealg.IndexByteString", "internal/bytealg.IndexString", "internal/abi.NoEscape", "internal/bytealg.Count", "internal/bytealg.MakeNoZero"], unfollowed := true, recurses := true, named := ["internal/bytealg.MaxLen", "unicode/utf8.first", "unicode/utf8.acceptRanges", "internal/strconv.uint64pow10", "math/bits.deBruijn32tab", "math/bits.deBruijn64tab"], apart := false, laid := [("math/bits.deBruijn32tab", laid_math_bits_deBruijn32tab), ("math/bits.deBruijn64tab", laid_math_bits_deBruijn64tab), ("internal/strconv.uint64pow10", laid_internal_strconv_uint64pow10), ("unicode/utf8.acceptRanges", laid_unicode_utf8_acceptRanges), ("unicode/utf8.first", laid_unicode_utf8_first)], narrowed := true }
def MimeInsideUptoSaid : Prop := mimeInsideUptoRow.holds Tryz.pinned (OpenSpec.upto mimeInsideSpec)

/-- 'estafettelaw11.MimeJoins', WHERE WHAT IT READS IS OF BULK AT MOST 1048576: true; the input reads as it did. -/
def mimeJoinsUptoRow : OpenClaim := { program := "ytbjbljfmcpidmaagreatdoor", sum := "2724cd5f8564ee9e01e703c77edd95d98628e29d1a27d0a32df6a4227c5166b5", func := "estafette/estafettelaw11.MimeJoins", spec := "mimeJoins", inPlace := ["internal/bytealg.IndexByte", "internal/bytealg.Index", "internal/bytealg.IndexByteString", "internal/bytealg.IndexString", "internal/abi.NoEscape", "internal/bytealg.Count", "internal/bytealg.MakeNoZero"], unfollowed := true, recurses := true, named := ["internal/bytealg.MaxLen", "unicode/utf8.first", "unicode/utf8.acceptRanges", "internal/strconv.uint64pow10", "math/bits.deBruijn32tab", "math/bits.deBruijn64tab"], apart := false, laid := [("math/bits.deBruijn32tab", laid_math_bits_deBruijn32tab), ("math/bits.deBruijn64tab", laid_math_bits_deBruijn64tab), ("internal/strconv.uint64pow10", laid_internal_strconv_uint64pow10), ("unicode/utf8.acceptRanges", laid_unicode_utf8_acceptRanges), ("unicode/utf8.first", laid_unicode_utf8_first)], narrowed := true }
def MimeJoinsUptoSaid : Prop := mimeJoinsUptoRow.holds Tryz.pinned (OpenSpec.upto mimeJoinsSpec)

/-- 'estafettelaw11.MimeWhole', WHERE WHAT IT READS IS OF BULK AT MOST 1048576: true; the input reads as it did. -/
def mimeWholeUptoRow : OpenClaim := { program := "ytbjbljfmcpidmaagreatdoor", sum := "2724cd5f8564ee9e01e703c77edd95d98628e29d1a27d0a32df6a4227c5166b5", func := "estafette/estafettelaw11.MimeWhole", spec := "mimeWhole", inPlace := ["internal/bytealg.IndexByte", "internal/bytealg.Index", "internal/bytealg.IndexByteString", "internal/bytealg.IndexString", "internal/abi.NoEscape", "internal/bytealg.Count", "internal/bytealg.MakeNoZero"], unfollowed := true, recurses := true, named := ["internal/bytealg.MaxLen", "unicode/utf8.first", "unicode/utf8.acceptRanges", "internal/strconv.uint64pow10", "math/bits.deBruijn32tab", "math/bits.deBruijn64tab"], apart := false, laid := [("math/bits.deBruijn32tab", laid_math_bits_deBruijn32tab), ("math/bits.deBruijn64tab", laid_math_bits_deBruijn64tab), ("internal/strconv.uint64pow10", laid_internal_strconv_uint64pow10), ("unicode/utf8.acceptRanges", laid_unicode_utf8_acceptRanges), ("unicode/utf8.first", laid_unicode_utf8_first)], narrowed := true }
def MimeWholeUptoSaid : Prop := mimeWholeUptoRow.holds Tryz.pinned (OpenSpec.upto mimeWholeSpec)

/-- 'estafettelaw21.ImapfetchMatches', WHERE WHAT IT READS IS OF BULK AT MOST 1048576: true; the input reads as it did. -/
def imapfetchMatchesUptoRow : OpenClaim := { program := "ytbjbljfmcpidmaagreatdoor", sum := "2724cd5f8564ee9e01e703c77edd95d98628e29d1a27d0a32df6a4227c5166b5", func := "estafette/estafettelaw21.ImapfetchMatches", spec := "imapfetchMatches", inPlace := ["internal/bytealg.IndexByte", "internal/bytealg.Index", "internal/bytealg.IndexByteString", "internal/bytealg.IndexString", "internal/abi.NoEscape", "internal/bytealg.CountString", "internal/bytealg.MakeNoZero", "internal/bytealg.Count"], unfollowed := true, recurses := true, named := ["internal/bytealg.MaxLen", "unicode/utf8.first", "unicode/utf8.acceptRanges", "internal/strconv.uint64pow10", "math/bits.deBruijn32tab", "math/bits.deBruijn64tab", "estafette/stamp.lengths"], apart := false, laid := [("math/bits.deBruijn32tab", laid_math_bits_deBruijn32tab), ("math/bits.deBruijn64tab", laid_math_bits_deBruijn64tab), ("internal/strconv.uint64pow10", laid_internal_strconv_uint64pow10), ("unicode/utf8.acceptRanges", laid_unicode_utf8_acceptRanges), ("estafette/stamp.lengths", laid_estafette_stamp_lengths), ("unicode/utf8.first", laid_unicode_utf8_first)], narrowed := true }
def ImapfetchMatchesUptoSaid : Prop := imapfetchMatchesUptoRow.holds Tryz.pinned (OpenSpec.upto imapfetchMatchesSpec)

/-- 'estafettelaw21.ImapfetchNot', WHERE WHAT IT READS IS OF BULK AT MOST 1048576: true; the input reads as it did. -/
def imapfetchNotUptoRow : OpenClaim := { program := "ytbjbljfmcpidmaagreatdoor", sum := "2724cd5f8564ee9e01e703c77edd95d98628e29d1a27d0a32df6a4227c5166b5", func := "estafette/estafettelaw21.ImapfetchNot", spec := "imapfetchNot", inPlace := ["internal/bytealg.IndexByte", "internal/bytealg.Index", "internal/bytealg.IndexByteString", "internal/bytealg.IndexString", "internal/abi.NoEscape", "internal/bytealg.CountString", "internal/bytealg.MakeNoZero", "internal/bytealg.Count"], unfollowed := true, recurses := true, named := ["internal/bytealg.MaxLen", "unicode/utf8.first", "unicode/utf8.acceptRanges", "internal/strconv.uint64pow10", "math/bits.deBruijn32tab", "math/bits.deBruijn64tab", "estafette/stamp.lengths"], apart := false, laid := [("math/bits.deBruijn32tab", laid_math_bits_deBruijn32tab), ("math/bits.deBruijn64tab", laid_math_bits_deBruijn64tab), ("internal/strconv.uint64pow10", laid_internal_strconv_uint64pow10), ("unicode/utf8.acceptRanges", laid_unicode_utf8_acceptRanges), ("estafette/stamp.lengths", laid_estafette_stamp_lengths), ("unicode/utf8.first", laid_unicode_utf8_first)], narrowed := true }
def ImapfetchNotUptoSaid : Prop := imapfetchNotUptoRow.holds Tryz.pinned (OpenSpec.upto imapfetchNotSpec)

/-- 'estafettelaw21.ImapfetchParts', WHERE WHAT IT READS IS OF BULK AT MOST 1048576: true; the input reads as it did. -/
def imapfetchPartsUptoRow : OpenClaim := { program := "ytbjbljfmcpidmaagreatdoor", sum := "2724cd5f8564ee9e01e703c77edd95d98628e29d1a27d0a32df6a4227c5166b5", func := "estafette/estafettelaw21.ImapfetchParts", spec := "imapfetchParts", inPlace := ["internal/bytealg.IndexByte", "internal/bytealg.Index", "internal/bytealg.IndexByteString", "internal/bytealg.IndexString", "internal/abi.NoEscape", "internal/bytealg.CountString", "internal/bytealg.MakeNoZero", "internal/bytealg.Count"], unfollowed := true, recurses := true, named := ["internal/bytealg.MaxLen", "unicode/utf8.first", "unicode/utf8.acceptRanges", "internal/strconv.uint64pow10", "math/bits.deBruijn32tab", "math/bits.deBruijn64tab", "estafette/stamp.lengths"], apart := false, laid := [("math/bits.deBruijn32tab", laid_math_bits_deBruijn32tab), ("math/bits.deBruijn64tab", laid_math_bits_deBruijn64tab), ("internal/strconv.uint64pow10", laid_internal_strconv_uint64pow10), ("unicode/utf8.acceptRanges", laid_unicode_utf8_acceptRanges), ("estafette/stamp.lengths", laid_estafette_stamp_lengths), ("unicode/utf8.first", laid_unicode_utf8_first)], narrowed := true }
def ImapfetchPartsUptoSaid : Prop := imapfetchPartsUptoRow.holds Tryz.pinned (OpenSpec.upto imapfetchPartsSpec)

/-- 'estafettelaw21.ImapfetchOrder', WHERE WHAT IT READS IS OF BULK AT MOST 1048576: true; the input reads as it did. -/
def imapfetchOrderUptoRow : OpenClaim := { program := "ytbjbljfmcpidmaagreatdoor", sum := "2724cd5f8564ee9e01e703c77edd95d98628e29d1a27d0a32df6a4227c5166b5", func := "estafette/estafettelaw21.ImapfetchOrder", spec := "imapfetchOrder", inPlace := ["internal/bytealg.IndexByte", "internal/bytealg.Index", "internal/bytealg.IndexByteString", "internal/bytealg.IndexString", "internal/abi.NoEscape", "internal/bytealg.CountString", "internal/bytealg.MakeNoZero", "internal/bytealg.Count"], unfollowed := true, recurses := true, named := ["internal/bytealg.MaxLen", "unicode/utf8.first", "unicode/utf8.acceptRanges", "internal/strconv.uint64pow10", "math/bits.deBruijn32tab", "math/bits.deBruijn64tab", "estafette/stamp.lengths"], apart := false, laid := [("math/bits.deBruijn32tab", laid_math_bits_deBruijn32tab), ("math/bits.deBruijn64tab", laid_math_bits_deBruijn64tab), ("internal/strconv.uint64pow10", laid_internal_strconv_uint64pow10), ("unicode/utf8.acceptRanges", laid_unicode_utf8_acceptRanges), ("estafette/stamp.lengths", laid_estafette_stamp_lengths), ("unicode/utf8.first", laid_unicode_utf8_first)], narrowed := true }
def ImapfetchOrderUptoSaid : Prop := imapfetchOrderUptoRow.holds Tryz.pinned (OpenSpec.upto imapfetchOrderSpec)

end Rows
end Go.Proofs.YtbjbljfmcpidmaaGreatDoor
