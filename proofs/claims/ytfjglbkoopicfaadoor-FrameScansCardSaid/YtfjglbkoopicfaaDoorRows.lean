/-
  NARROWER THAN 'FOR EVERY INPUT', by the rows' own cells (each row's printed sentence says how): FrameScans: laid · FrameBack: laid · FrameBursts: laid · FrameSums: laid · StampReads: laid · StampTells: laid · StampCmps: laid · StampBack: laid · StampOrders: laid · StampOffsets: laid · StampDays: laid · StampNext: laid.
  DERIVED. THE GIVEN ROWS OF THIS SEAT. 12 by the template 'for every input the law returns true; each argument reads behind the call as it read before'; 0 by the template 'total and deterministic' (their statements: YtfjglbkoopicfaaDoorTotals.lean).
  GIVEN WITH THE SEED: the statements are not yours to turn. If you find one false, say at which input.
  Laid BY PROGRAM, IN A SANDBOX (cutbox-rows.mjs): the forced cells as the released guide's own fill.sh prints them over the translation 676e8dc518f52e1c… (all of the seat's roots in one cut). By AI agents, Wed Nov 11 2026. No macro, syntax, notation, axiom, sorry.
-/
import Derived.Test.YtfjglbkoopicfaaDoorChecked
import GoSem.PinnedTables
import GoSem.Claim
import GoSem.ClaimJoined
import GoSem.ClaimMapViews
import Derived.JoinedTies
import Derived.KernelRfl
namespace Go.Proofs.YtfjglbkoopicfaaDoor
/- THE CELL 'sum', in the pinned program and in every row, IS THE sha256 OF THE DUMP (.gsa) THAT YtfjglbkoopicfaaDoorProg.lean LOADS. Nothing in Lean hashes anything: it is a label: what it is worth is what the hold of that sum in a sandbox is worth. -/
noncomputable def Tryd.pinned : Pinned := { name := "ytfjglbkoopicfaadoor", sum := "676e8dc518f52e1c933db0e88bf0659522fa4873ea7b8c95f1437a64c2927498", checked := Tryd.checked }
namespace Rows
def none {H : Type} : Left H := { results := [], args := [] }

/- WHAT THE LISTED PACKAGE-LEVEL VARIABLES READ AS WHEN THE CALL BEGINS. Each datum BY PROGRAM (the guide's laid-datum.mjs) off the statement by which the dump's own 'gosem.cut.vars' lays the variable. In a bare row this is a premise. The card (YtfjglbkoopicfaaDoorCards.lean) ties it to the program's text. -/
def laid_voyage_api_ErrLong {H : Type} : DataW H := .iface "*errors.errorString" (.ptr (.agg [.lit (.string [118, 111, 121, 97, 103, 101, 58, 32, 97, 98, 111, 118, 101, 32, 97, 32, 98, 111, 117, 110, 100])]))
def laid_math_bits_deBruijn32tab {H : Type} : DataW H := .agg [.lit (.int .u8 0), .lit (.int .u8 1), .lit (.int .u8 28), .lit (.int .u8 2), .lit (.int .u8 29), .lit (.int .u8 14), .lit (.int .u8 24), .lit (.int .u8 3), .lit (.int .u8 30), .lit (.int .u8 22), .lit (.int .u8 20), .lit (.int .u8 15), .lit (.int .u8 25), .lit (.int .u8 17), .lit (.int .u8 4), .lit (.int .u8 8), .lit (.int .u8 31), .lit (.int .u8 27), .lit (.int .u8 13), .lit (.int .u8 23), .lit (.int .u8 21), .lit (.int .u8 19), .lit (.int .u8 16), .lit (.int .u8 7), .lit (.int .u8 26), .lit (.int .u8 12), .lit (.int .u8 18), .lit (.int .u8 6), .lit (.int .u8 11), .lit (.int .u8 5), .lit (.int .u8 10), .lit (.int .u8 9)]
def laid_math_bits_deBruijn64tab {H : Type} : DataW H := .agg [.lit (.int .u8 0), .lit (.int .u8 1), .lit (.int .u8 56), .lit (.int .u8 2), .lit (.int .u8 57), .lit (.int .u8 49), .lit (.int .u8 28), .lit (.int .u8 3), .lit (.int .u8 61), .lit (.int .u8 58), .lit (.int .u8 42), .lit (.int .u8 50), .lit (.int .u8 38), .lit (.int .u8 29), .lit (.int .u8 17), .lit (.int .u8 4), .lit (.int .u8 62), .lit (.int .u8 47), .lit (.int .u8 59), .lit (.int .u8 36), .lit (.int .u8 45), .lit (.int .u8 43), .lit (.int .u8 51), .lit (.int .u8 22), .lit (.int .u8 53), .lit (.int .u8 39), .lit (.int .u8 33), .lit (.int .u8 30), .lit (.int .u8 24), .lit (.int .u8 18), .lit (.int .u8 12), .lit (.int .u8 5), .lit (.int .u8 63), .lit (.int .u8 55), .lit (.int .u8 48), .lit (.int .u8 27), .lit (.int .u8 60), .lit (.int .u8 41), .lit (.int .u8 37), .lit (.int .u8 16), .lit (.int .u8 46), .lit (.int .u8 35), .lit (.int .u8 44), .lit (.int .u8 21), .lit (.int .u8 52), .lit (.int .u8 32), .lit (.int .u8 23), .lit (.int .u8 11), .lit (.int .u8 54), .lit (.int .u8 26), .lit (.int .u8 40), .lit (.int .u8 15), .lit (.int .u8 34), .lit (.int .u8 20), .lit (.int .u8 31), .lit (.int .u8 10), .lit (.int .u8 25), .lit (.int .u8 14), .lit (.int .u8 19), .lit (.int .u8 9), .lit (.int .u8 13), .lit (.int .u8 8), .lit (.int .u8 7), .lit (.int .u8 6)]
def laid_internal_strconv_uint64pow10 {H : Type} : DataW H := .agg [.lit (.int .u64 1), .lit (.int .u64 10), .lit (.int .u64 100), .lit (.int .u64 1000), .lit (.int .u64 10000), .lit (.int .u64 100000), .lit (.int .u64 1000000), .lit (.int .u64 10000000), .lit (.int .u64 100000000), .lit (.int .u64 1000000000), .lit (.int .u64 10000000000), .lit (.int .u64 100000000000), .lit (.int .u64 1000000000000), .lit (.int .u64 10000000000000), .lit (.int .u64 100000000000000), .lit (.int .u64 1000000000000000), .lit (.int .u64 10000000000000000), .lit (.int .u64 100000000000000000), .lit (.int .u64 1000000000000000000), .lit (.int .u64 10000000000000000000)]
def laid_unicode_utf8_acceptRanges {H : Type} : DataW H := .agg [.agg [.lit (.int .u8 128), .lit (.int .u8 191)], .agg [.lit (.int .u8 160), .lit (.int .u8 191)], .agg [.lit (.int .u8 128), .lit (.int .u8 159)], .agg [.lit (.int .u8 144), .lit (.int .u8 191)], .agg [.lit (.int .u8 128), .lit (.int .u8 143)], .agg [.lit (.int .u8 0), .lit (.int .u8 0)], .agg [.lit (.int .u8 0), .lit (.int .u8 0)], .agg [.lit (.int .u8 0), .lit (.int .u8 0)], .agg [.lit (.int .u8 0), .lit (.int .u8 0)], .agg [.lit (.int .u8 0), .lit (.int .u8 0)], .agg [.lit (.int .u8 0), .lit (.int .u8 0)], .agg [.lit (.int .u8 0), .lit (.int .u8 0)], .agg [.lit (.int .u8 0), .lit (.int .u8 0)], .agg [.lit (.int .u8 0), .lit (.int .u8 0)], .agg [.lit (.int .u8 0), .lit (.int .u8 0)], .agg [.lit (.int .u8 0), .lit (.int .u8 0)]]
def laid_voyage_api_ErrTime {H : Type} : DataW H := .iface "*errors.errorString" (.ptr (.agg [.lit (.string [118, 111, 121, 97, 103, 101, 58, 32, 110, 111, 32, 109, 111, 109, 101, 110, 116])]))
/-- One of Go's own tables, pinned by name: the form's constant. -/
def laid_unicode_utf8_first : DataW Unit := Go.Pinned.utf8First

/-- 'voyagelaw11.FrameScans': WHATEVER THE INPUT: true; the input reads as it did. -/
def frameScansSpec : ChangeSpec := { name := "frameScans", fn := fun _ => fun
  | [d] => { results := [.lit (.bool true)], args := [d] }
  | _ => none }
def frameScansRow : OpenClaim := { program := "ytfjglbkoopicfaadoor", sum := "676e8dc518f52e1c933db0e88bf0659522fa4873ea7b8c95f1437a64c2927498", func := "voyage/voyagelaw11.FrameScans", spec := "frameScans", named := ["voyage/api.ErrLong"], apart := false, laid := [("voyage/api.ErrLong", laid_voyage_api_ErrLong)] }
def FrameScansSaid : Prop := frameScansRow.holds Tryd.pinned (OpenSpec.ofChange frameScansSpec)

/-- ITS FALSE NEIGHBOUR: 'it returns false'. Refute it at one input. -/
def frameScansWrong : ChangeSpec := { name := "frameScans", fn := fun _ => fun
  | [d] => { results := [.lit (.bool false)], args := [d] }
  | _ => none }
def FrameScansWrongFalsely : Prop := frameScansRow.holds Tryd.pinned (OpenSpec.ofChange frameScansWrong)

/-- 'voyagelaw11.FrameBack': WHATEVER THE INPUT: true; the input reads as it did. -/
def frameBackSpec : ChangeSpec := { name := "frameBack", fn := fun _ => fun
  | [d1, d2] => { results := [.lit (.bool true)], args := [d1, d2] }
  | _ => none }
def frameBackRow : OpenClaim := { program := "ytfjglbkoopicfaadoor", sum := "676e8dc518f52e1c933db0e88bf0659522fa4873ea7b8c95f1437a64c2927498", func := "voyage/voyagelaw11.FrameBack", spec := "frameBack", named := ["voyage/api.ErrLong"], apart := false, laid := [("voyage/api.ErrLong", laid_voyage_api_ErrLong)] }
def FrameBackSaid : Prop := frameBackRow.holds Tryd.pinned (OpenSpec.ofChange frameBackSpec)

/-- ITS FALSE NEIGHBOUR: 'it returns false'. Refute it at one input. -/
def frameBackWrong : ChangeSpec := { name := "frameBack", fn := fun _ => fun
  | [d1, d2] => { results := [.lit (.bool false)], args := [d1, d2] }
  | _ => none }
def FrameBackWrongFalsely : Prop := frameBackRow.holds Tryd.pinned (OpenSpec.ofChange frameBackWrong)

/-- 'voyagelaw11.FrameBursts': WHATEVER THE INPUT: true; the input reads as it did. -/
def frameBurstsSpec : ChangeSpec := { name := "frameBursts", fn := fun _ => fun
  | [d1, d2, d3] => { results := [.lit (.bool true)], args := [d1, d2, d3] }
  | _ => none }
def frameBurstsRow : OpenClaim := { program := "ytfjglbkoopicfaadoor", sum := "676e8dc518f52e1c933db0e88bf0659522fa4873ea7b8c95f1437a64c2927498", func := "voyage/voyagelaw11.FrameBursts", spec := "frameBursts", named := ["voyage/api.ErrLong"], apart := false, laid := [("voyage/api.ErrLong", laid_voyage_api_ErrLong)] }
def FrameBurstsSaid : Prop := frameBurstsRow.holds Tryd.pinned (OpenSpec.ofChange frameBurstsSpec)

/-- ITS FALSE NEIGHBOUR: 'it returns false'. Refute it at one input. -/
def frameBurstsWrong : ChangeSpec := { name := "frameBursts", fn := fun _ => fun
  | [d1, d2, d3] => { results := [.lit (.bool false)], args := [d1, d2, d3] }
  | _ => none }
def FrameBurstsWrongFalsely : Prop := frameBurstsRow.holds Tryd.pinned (OpenSpec.ofChange frameBurstsWrong)

/-- 'voyagelaw11.FrameSums': WHATEVER THE INPUT: true; the input reads as it did. -/
def frameSumsSpec : ChangeSpec := { name := "frameSums", fn := fun _ => fun
  | [d1, d2, d3] => { results := [.lit (.bool true)], args := [d1, d2, d3] }
  | _ => none }
def frameSumsRow : OpenClaim := { program := "ytfjglbkoopicfaadoor", sum := "676e8dc518f52e1c933db0e88bf0659522fa4873ea7b8c95f1437a64c2927498", func := "voyage/voyagelaw11.FrameSums", spec := "frameSums", named := ["voyage/api.ErrLong"], apart := false, laid := [("voyage/api.ErrLong", laid_voyage_api_ErrLong)] }
def FrameSumsSaid : Prop := frameSumsRow.holds Tryd.pinned (OpenSpec.ofChange frameSumsSpec)

/-- ITS FALSE NEIGHBOUR: 'it returns false'. Refute it at one input. -/
def frameSumsWrong : ChangeSpec := { name := "frameSums", fn := fun _ => fun
  | [d1, d2, d3] => { results := [.lit (.bool false)], args := [d1, d2, d3] }
  | _ => none }
def FrameSumsWrongFalsely : Prop := frameSumsRow.holds Tryd.pinned (OpenSpec.ofChange frameSumsWrong)

/-- 'voyagelaw06.StampReads': WHATEVER THE INPUT: true; the input reads as it did. -/
def stampReadsSpec : ChangeSpec := { name := "stampReads", fn := fun _ => fun
  | [d] => { results := [.lit (.bool true)], args := [d] }
  | _ => none }
def stampReadsRow : OpenClaim := { program := "ytfjglbkoopicfaadoor", sum := "676e8dc518f52e1c933db0e88bf0659522fa4873ea7b8c95f1437a64c2927498", func := "voyage/voyagelaw06.StampReads", spec := "stampReads", inPlace := ["internal/abi.NoEscape", "internal/bytealg.MakeNoZero", "internal/bytealg.IndexByteString", "internal/bytealg.IndexString"], named := ["voyage/api.ErrTime", "internal/strconv.uint64pow10", "math/bits.deBruijn32tab", "math/bits.deBruijn64tab", "unicode/utf8.first", "unicode/utf8.acceptRanges", "internal/bytealg.MaxLen"], apart := false, laid := [("math/bits.deBruijn32tab", laid_math_bits_deBruijn32tab), ("math/bits.deBruijn64tab", laid_math_bits_deBruijn64tab), ("internal/strconv.uint64pow10", laid_internal_strconv_uint64pow10), ("unicode/utf8.acceptRanges", laid_unicode_utf8_acceptRanges), ("voyage/api.ErrTime", laid_voyage_api_ErrTime), ("unicode/utf8.first", laid_unicode_utf8_first)] }
def StampReadsSaid : Prop := stampReadsRow.holds Tryd.pinned (OpenSpec.ofChange stampReadsSpec)

/-- ITS FALSE NEIGHBOUR: 'it returns false'. Refute it at one input. -/
def stampReadsWrong : ChangeSpec := { name := "stampReads", fn := fun _ => fun
  | [d] => { results := [.lit (.bool false)], args := [d] }
  | _ => none }
def StampReadsWrongFalsely : Prop := stampReadsRow.holds Tryd.pinned (OpenSpec.ofChange stampReadsWrong)

/-- 'voyagelaw06.StampTells': WHATEVER THE INPUT: true; the input reads as it did. -/
def stampTellsSpec : ChangeSpec := { name := "stampTells", fn := fun _ => fun
  | [d] => { results := [.lit (.bool true)], args := [d] }
  | _ => none }
def stampTellsRow : OpenClaim := { program := "ytfjglbkoopicfaadoor", sum := "676e8dc518f52e1c933db0e88bf0659522fa4873ea7b8c95f1437a64c2927498", func := "voyage/voyagelaw06.StampTells", spec := "stampTells", inPlace := ["internal/abi.NoEscape", "internal/bytealg.MakeNoZero", "internal/bytealg.IndexByteString", "internal/bytealg.IndexString"], named := ["voyage/api.ErrTime", "internal/strconv.uint64pow10", "math/bits.deBruijn32tab", "math/bits.deBruijn64tab", "unicode/utf8.first", "unicode/utf8.acceptRanges", "internal/bytealg.MaxLen"], apart := false, laid := [("math/bits.deBruijn32tab", laid_math_bits_deBruijn32tab), ("math/bits.deBruijn64tab", laid_math_bits_deBruijn64tab), ("internal/strconv.uint64pow10", laid_internal_strconv_uint64pow10), ("unicode/utf8.acceptRanges", laid_unicode_utf8_acceptRanges), ("voyage/api.ErrTime", laid_voyage_api_ErrTime), ("unicode/utf8.first", laid_unicode_utf8_first)] }
def StampTellsSaid : Prop := stampTellsRow.holds Tryd.pinned (OpenSpec.ofChange stampTellsSpec)

/-- ITS FALSE NEIGHBOUR: 'it returns false'. Refute it at one input. -/
def stampTellsWrong : ChangeSpec := { name := "stampTells", fn := fun _ => fun
  | [d] => { results := [.lit (.bool false)], args := [d] }
  | _ => none }
def StampTellsWrongFalsely : Prop := stampTellsRow.holds Tryd.pinned (OpenSpec.ofChange stampTellsWrong)

/-- 'voyagelaw06.StampCmps': WHATEVER THE INPUT: true; the input reads as it did. -/
def stampCmpsSpec : ChangeSpec := { name := "stampCmps", fn := fun _ => fun
  | [d1, d2] => { results := [.lit (.bool true)], args := [d1, d2] }
  | _ => none }
def stampCmpsRow : OpenClaim := { program := "ytfjglbkoopicfaadoor", sum := "676e8dc518f52e1c933db0e88bf0659522fa4873ea7b8c95f1437a64c2927498", func := "voyage/voyagelaw06.StampCmps", spec := "stampCmps", inPlace := ["internal/abi.NoEscape", "internal/bytealg.MakeNoZero", "internal/bytealg.IndexByteString", "internal/bytealg.IndexString"], named := ["voyage/api.ErrTime", "internal/strconv.uint64pow10", "math/bits.deBruijn32tab", "math/bits.deBruijn64tab", "unicode/utf8.first", "unicode/utf8.acceptRanges", "internal/bytealg.MaxLen"], apart := false, laid := [("math/bits.deBruijn32tab", laid_math_bits_deBruijn32tab), ("math/bits.deBruijn64tab", laid_math_bits_deBruijn64tab), ("internal/strconv.uint64pow10", laid_internal_strconv_uint64pow10), ("unicode/utf8.acceptRanges", laid_unicode_utf8_acceptRanges), ("voyage/api.ErrTime", laid_voyage_api_ErrTime), ("unicode/utf8.first", laid_unicode_utf8_first)] }
def StampCmpsSaid : Prop := stampCmpsRow.holds Tryd.pinned (OpenSpec.ofChange stampCmpsSpec)

/-- ITS FALSE NEIGHBOUR: 'it returns false'. Refute it at one input. -/
def stampCmpsWrong : ChangeSpec := { name := "stampCmps", fn := fun _ => fun
  | [d1, d2] => { results := [.lit (.bool false)], args := [d1, d2] }
  | _ => none }
def StampCmpsWrongFalsely : Prop := stampCmpsRow.holds Tryd.pinned (OpenSpec.ofChange stampCmpsWrong)

/-- 'voyagelaw06.StampBack': WHATEVER THE INPUT: true; the input reads as it did. -/
def stampBackSpec : ChangeSpec := { name := "stampBack", fn := fun _ => fun
  | [d1, d2] => { results := [.lit (.bool true)], args := [d1, d2] }
  | _ => none }
def stampBackRow : OpenClaim := { program := "ytfjglbkoopicfaadoor", sum := "676e8dc518f52e1c933db0e88bf0659522fa4873ea7b8c95f1437a64c2927498", func := "voyage/voyagelaw06.StampBack", spec := "stampBack", inPlace := ["internal/abi.NoEscape", "internal/bytealg.MakeNoZero", "internal/bytealg.IndexByteString", "internal/bytealg.IndexString"], named := ["voyage/api.ErrTime", "internal/strconv.uint64pow10", "math/bits.deBruijn32tab", "math/bits.deBruijn64tab", "unicode/utf8.first", "unicode/utf8.acceptRanges", "internal/bytealg.MaxLen"], apart := false, laid := [("math/bits.deBruijn32tab", laid_math_bits_deBruijn32tab), ("math/bits.deBruijn64tab", laid_math_bits_deBruijn64tab), ("internal/strconv.uint64pow10", laid_internal_strconv_uint64pow10), ("unicode/utf8.acceptRanges", laid_unicode_utf8_acceptRanges), ("voyage/api.ErrTime", laid_voyage_api_ErrTime), ("unicode/utf8.first", laid_unicode_utf8_first)] }
def StampBackSaid : Prop := stampBackRow.holds Tryd.pinned (OpenSpec.ofChange stampBackSpec)

/-- ITS FALSE NEIGHBOUR: 'it returns false'. Refute it at one input. -/
def stampBackWrong : ChangeSpec := { name := "stampBack", fn := fun _ => fun
  | [d1, d2] => { results := [.lit (.bool false)], args := [d1, d2] }
  | _ => none }
def StampBackWrongFalsely : Prop := stampBackRow.holds Tryd.pinned (OpenSpec.ofChange stampBackWrong)

/-- 'voyagelaw06.StampOrders': WHATEVER THE INPUT: true; the input reads as it did. -/
def stampOrdersSpec : ChangeSpec := { name := "stampOrders", fn := fun _ => fun
  | [d1, d2, d3] => { results := [.lit (.bool true)], args := [d1, d2, d3] }
  | _ => none }
def stampOrdersRow : OpenClaim := { program := "ytfjglbkoopicfaadoor", sum := "676e8dc518f52e1c933db0e88bf0659522fa4873ea7b8c95f1437a64c2927498", func := "voyage/voyagelaw06.StampOrders", spec := "stampOrders", inPlace := ["internal/abi.NoEscape", "internal/bytealg.MakeNoZero", "internal/bytealg.IndexByteString", "internal/bytealg.IndexString"], named := ["voyage/api.ErrTime", "internal/strconv.uint64pow10", "math/bits.deBruijn32tab", "math/bits.deBruijn64tab", "unicode/utf8.first", "unicode/utf8.acceptRanges", "internal/bytealg.MaxLen"], apart := false, laid := [("math/bits.deBruijn32tab", laid_math_bits_deBruijn32tab), ("math/bits.deBruijn64tab", laid_math_bits_deBruijn64tab), ("internal/strconv.uint64pow10", laid_internal_strconv_uint64pow10), ("unicode/utf8.acceptRanges", laid_unicode_utf8_acceptRanges), ("voyage/api.ErrTime", laid_voyage_api_ErrTime), ("unicode/utf8.first", laid_unicode_utf8_first)] }
def StampOrdersSaid : Prop := stampOrdersRow.holds Tryd.pinned (OpenSpec.ofChange stampOrdersSpec)

/-- ITS FALSE NEIGHBOUR: 'it returns false'. Refute it at one input. -/
def stampOrdersWrong : ChangeSpec := { name := "stampOrders", fn := fun _ => fun
  | [d1, d2, d3] => { results := [.lit (.bool false)], args := [d1, d2, d3] }
  | _ => none }
def StampOrdersWrongFalsely : Prop := stampOrdersRow.holds Tryd.pinned (OpenSpec.ofChange stampOrdersWrong)

/-- 'voyagelaw06.StampOffsets': WHATEVER THE INPUT: true; the input reads as it did. -/
def stampOffsetsSpec : ChangeSpec := { name := "stampOffsets", fn := fun _ => fun
  | [d1, d2, d3] => { results := [.lit (.bool true)], args := [d1, d2, d3] }
  | _ => none }
def stampOffsetsRow : OpenClaim := { program := "ytfjglbkoopicfaadoor", sum := "676e8dc518f52e1c933db0e88bf0659522fa4873ea7b8c95f1437a64c2927498", func := "voyage/voyagelaw06.StampOffsets", spec := "stampOffsets", inPlace := ["internal/abi.NoEscape", "internal/bytealg.MakeNoZero", "internal/bytealg.IndexByteString", "internal/bytealg.IndexString"], named := ["voyage/api.ErrTime", "internal/strconv.uint64pow10", "math/bits.deBruijn32tab", "math/bits.deBruijn64tab", "unicode/utf8.first", "unicode/utf8.acceptRanges", "internal/bytealg.MaxLen"], apart := false, laid := [("math/bits.deBruijn32tab", laid_math_bits_deBruijn32tab), ("math/bits.deBruijn64tab", laid_math_bits_deBruijn64tab), ("internal/strconv.uint64pow10", laid_internal_strconv_uint64pow10), ("unicode/utf8.acceptRanges", laid_unicode_utf8_acceptRanges), ("voyage/api.ErrTime", laid_voyage_api_ErrTime), ("unicode/utf8.first", laid_unicode_utf8_first)] }
def StampOffsetsSaid : Prop := stampOffsetsRow.holds Tryd.pinned (OpenSpec.ofChange stampOffsetsSpec)

/-- ITS FALSE NEIGHBOUR: 'it returns false'. Refute it at one input. -/
def stampOffsetsWrong : ChangeSpec := { name := "stampOffsets", fn := fun _ => fun
  | [d1, d2, d3] => { results := [.lit (.bool false)], args := [d1, d2, d3] }
  | _ => none }
def StampOffsetsWrongFalsely : Prop := stampOffsetsRow.holds Tryd.pinned (OpenSpec.ofChange stampOffsetsWrong)

/-- 'voyagelaw06.StampDays': WHATEVER THE INPUT: true; the input reads as it did. -/
def stampDaysSpec : ChangeSpec := { name := "stampDays", fn := fun _ => fun
  | [d1, d2, d3, d4] => { results := [.lit (.bool true)], args := [d1, d2, d3, d4] }
  | _ => none }
def stampDaysRow : OpenClaim := { program := "ytfjglbkoopicfaadoor", sum := "676e8dc518f52e1c933db0e88bf0659522fa4873ea7b8c95f1437a64c2927498", func := "voyage/voyagelaw06.StampDays", spec := "stampDays", inPlace := ["internal/abi.NoEscape", "internal/bytealg.MakeNoZero", "internal/bytealg.IndexByteString", "internal/bytealg.IndexString"], named := ["voyage/api.ErrTime", "internal/strconv.uint64pow10", "math/bits.deBruijn32tab", "math/bits.deBruijn64tab", "unicode/utf8.first", "unicode/utf8.acceptRanges", "internal/bytealg.MaxLen"], apart := false, laid := [("math/bits.deBruijn32tab", laid_math_bits_deBruijn32tab), ("math/bits.deBruijn64tab", laid_math_bits_deBruijn64tab), ("internal/strconv.uint64pow10", laid_internal_strconv_uint64pow10), ("unicode/utf8.acceptRanges", laid_unicode_utf8_acceptRanges), ("voyage/api.ErrTime", laid_voyage_api_ErrTime), ("unicode/utf8.first", laid_unicode_utf8_first)] }
def StampDaysSaid : Prop := stampDaysRow.holds Tryd.pinned (OpenSpec.ofChange stampDaysSpec)

/-- ITS FALSE NEIGHBOUR: 'it returns false'. Refute it at one input. -/
def stampDaysWrong : ChangeSpec := { name := "stampDays", fn := fun _ => fun
  | [d1, d2, d3, d4] => { results := [.lit (.bool false)], args := [d1, d2, d3, d4] }
  | _ => none }
def StampDaysWrongFalsely : Prop := stampDaysRow.holds Tryd.pinned (OpenSpec.ofChange stampDaysWrong)

/-- 'voyagelaw06.StampNext': WHATEVER THE INPUT: true; the input reads as it did. -/
def stampNextSpec : ChangeSpec := { name := "stampNext", fn := fun _ => fun
  | [d] => { results := [.lit (.bool true)], args := [d] }
  | _ => none }
def stampNextRow : OpenClaim := { program := "ytfjglbkoopicfaadoor", sum := "676e8dc518f52e1c933db0e88bf0659522fa4873ea7b8c95f1437a64c2927498", func := "voyage/voyagelaw06.StampNext", spec := "stampNext", inPlace := ["internal/abi.NoEscape", "internal/bytealg.MakeNoZero", "internal/bytealg.IndexByteString", "internal/bytealg.IndexString"], named := ["voyage/api.ErrTime", "internal/strconv.uint64pow10", "math/bits.deBruijn32tab", "math/bits.deBruijn64tab", "unicode/utf8.first", "unicode/utf8.acceptRanges", "internal/bytealg.MaxLen"], apart := false, laid := [("math/bits.deBruijn32tab", laid_math_bits_deBruijn32tab), ("math/bits.deBruijn64tab", laid_math_bits_deBruijn64tab), ("internal/strconv.uint64pow10", laid_internal_strconv_uint64pow10), ("unicode/utf8.acceptRanges", laid_unicode_utf8_acceptRanges), ("voyage/api.ErrTime", laid_voyage_api_ErrTime), ("unicode/utf8.first", laid_unicode_utf8_first)] }
def StampNextSaid : Prop := stampNextRow.holds Tryd.pinned (OpenSpec.ofChange stampNextSpec)

/-- ITS FALSE NEIGHBOUR: 'it returns false'. Refute it at one input. -/
def stampNextWrong : ChangeSpec := { name := "stampNext", fn := fun _ => fun
  | [d] => { results := [.lit (.bool false)], args := [d] }
  | _ => none }
def StampNextWrongFalsely : Prop := stampNextRow.holds Tryd.pinned (OpenSpec.ofChange stampNextWrong)

/- THE SECOND FORM. 'bulk': how many values and letters a reading holds, each counted each time it is reached (what is shared counts as often as it is met; a slice's spare places count too). A statement '..UptoSaid' is the law's where the arguments, and the package variables that the reading takes, are together of bulk at most 1048576: NARROWER than '..Said'. Prove '..Said' where nothing that the law and all that it calls make is longer than what came in: it says more and counts as full. Else prove '..UptoSaid'. A law counts once. -/
mutual
def uptoBulk {H : Type} : DataW H → Nat
  | .lit (.string bytes) => bytes.length + 1
  | .lit _ => 1
  | .nil => 1
  | .ptr d => uptoBulk d + 1
  | .slice elems spare => uptoBulkAll elems + uptoBulkAll spare + 1
  | .agg parts => uptoBulkAll parts + 1
  | .iface _ d => uptoBulk d + 1
  | .map entries => uptoBulkEntries entries + 1
  | .held _ => 1
def uptoBulkAll {H : Type} : List (DataW H) → Nat
  | [] => 0
  | d :: r => uptoBulk d + uptoBulkAll r
def uptoBulkEntries {H : Type} : List (Lit × DataW H) → Nat
  | [] => 0
  | x :: r => uptoBulkEntry x + uptoBulkEntries r
def uptoBulkEntry {H : Type} : Lit × DataW H → Nat
  | (.string bytes, d) => bytes.length + uptoBulk d + 1
  | (_, d) => uptoBulk d + 1
 end
def uptoSmall : (H : Type) → List (DataW H) → Bool := fun _ ds => decide (uptoBulkAll ds ≤ 1048576)
def OpenSpec.upto (s : _root_.Go.ChangeSpec) : _root_.Go.OpenSpec := { _root_.Go.OpenSpec.ofChange s with cond := some uptoSmall }

/-- 'voyagelaw11.FrameScans', WHERE WHAT IT READS IS OF BULK AT MOST 1048576: true; the input reads as it did. -/
def frameScansUptoRow : OpenClaim := { program := "ytfjglbkoopicfaadoor", sum := "676e8dc518f52e1c933db0e88bf0659522fa4873ea7b8c95f1437a64c2927498", func := "voyage/voyagelaw11.FrameScans", spec := "frameScans", named := ["voyage/api.ErrLong"], apart := false, laid := [("voyage/api.ErrLong", laid_voyage_api_ErrLong)], narrowed := true }
def FrameScansUptoSaid : Prop := frameScansUptoRow.holds Tryd.pinned (OpenSpec.upto frameScansSpec)

/-- 'voyagelaw11.FrameBack', WHERE WHAT IT READS IS OF BULK AT MOST 1048576: true; the input reads as it did. -/
def frameBackUptoRow : OpenClaim := { program := "ytfjglbkoopicfaadoor", sum := "676e8dc518f52e1c933db0e88bf0659522fa4873ea7b8c95f1437a64c2927498", func := "voyage/voyagelaw11.FrameBack", spec := "frameBack", named := ["voyage/api.ErrLong"], apart := false, laid := [("voyage/api.ErrLong", laid_voyage_api_ErrLong)], narrowed := true }
def FrameBackUptoSaid : Prop := frameBackUptoRow.holds Tryd.pinned (OpenSpec.upto frameBackSpec)

/-- 'voyagelaw11.FrameBursts', WHERE WHAT IT READS IS OF BULK AT MOST 1048576: true; the input reads as it did. -/
def frameBurstsUptoRow : OpenClaim := { program := "ytfjglbkoopicfaadoor", sum := "676e8dc518f52e1c933db0e88bf0659522fa4873ea7b8c95f1437a64c2927498", func := "voyage/voyagelaw11.FrameBursts", spec := "frameBursts", named := ["voyage/api.ErrLong"], apart := false, laid := [("voyage/api.ErrLong", laid_voyage_api_ErrLong)], narrowed := true }
def FrameBurstsUptoSaid : Prop := frameBurstsUptoRow.holds Tryd.pinned (OpenSpec.upto frameBurstsSpec)

/-- 'voyagelaw11.FrameSums', WHERE WHAT IT READS IS OF BULK AT MOST 1048576: true; the input reads as it did. -/
def frameSumsUptoRow : OpenClaim := { program := "ytfjglbkoopicfaadoor", sum := "676e8dc518f52e1c933db0e88bf0659522fa4873ea7b8c95f1437a64c2927498", func := "voyage/voyagelaw11.FrameSums", spec := "frameSums", named := ["voyage/api.ErrLong"], apart := false, laid := [("voyage/api.ErrLong", laid_voyage_api_ErrLong)], narrowed := true }
def FrameSumsUptoSaid : Prop := frameSumsUptoRow.holds Tryd.pinned (OpenSpec.upto frameSumsSpec)

/-- 'voyagelaw06.StampReads', WHERE WHAT IT READS IS OF BULK AT MOST 1048576: true; the input reads as it did. -/
def stampReadsUptoRow : OpenClaim := { program := "ytfjglbkoopicfaadoor", sum := "676e8dc518f52e1c933db0e88bf0659522fa4873ea7b8c95f1437a64c2927498", func := "voyage/voyagelaw06.StampReads", spec := "stampReads", inPlace := ["internal/abi.NoEscape", "internal/bytealg.MakeNoZero", "internal/bytealg.IndexByteString", "internal/bytealg.IndexString"], named := ["voyage/api.ErrTime", "internal/strconv.uint64pow10", "math/bits.deBruijn32tab", "math/bits.deBruijn64tab", "unicode/utf8.first", "unicode/utf8.acceptRanges", "internal/bytealg.MaxLen"], apart := false, laid := [("math/bits.deBruijn32tab", laid_math_bits_deBruijn32tab), ("math/bits.deBruijn64tab", laid_math_bits_deBruijn64tab), ("internal/strconv.uint64pow10", laid_internal_strconv_uint64pow10), ("unicode/utf8.acceptRanges", laid_unicode_utf8_acceptRanges), ("voyage/api.ErrTime", laid_voyage_api_ErrTime), ("unicode/utf8.first", laid_unicode_utf8_first)], narrowed := true }
def StampReadsUptoSaid : Prop := stampReadsUptoRow.holds Tryd.pinned (OpenSpec.upto stampReadsSpec)

/-- 'voyagelaw06.StampTells', WHERE WHAT IT READS IS OF BULK AT MOST 1048576: true; the input reads as it did. -/
def stampTellsUptoRow : OpenClaim := { program := "ytfjglbkoopicfaadoor", sum := "676e8dc518f52e1c933db0e88bf0659522fa4873ea7b8c95f1437a64c2927498", func := "voyage/voyagelaw06.StampTells", spec := "stampTells", inPlace := ["internal/abi.NoEscape", "internal/bytealg.MakeNoZero", "internal/bytealg.IndexByteString", "internal/bytealg.IndexString"], named := ["voyage/api.ErrTime", "internal/strconv.uint64pow10", "math/bits.deBruijn32tab", "math/bits.deBruijn64tab", "unicode/utf8.first", "unicode/utf8.acceptRanges", "internal/bytealg.MaxLen"], apart := false, laid := [("math/bits.deBruijn32tab", laid_math_bits_deBruijn32tab), ("math/bits.deBruijn64tab", laid_math_bits_deBruijn64tab), ("internal/strconv.uint64pow10", laid_internal_strconv_uint64pow10), ("unicode/utf8.acceptRanges", laid_unicode_utf8_acceptRanges), ("voyage/api.ErrTime", laid_voyage_api_ErrTime), ("unicode/utf8.first", laid_unicode_utf8_first)], narrowed := true }
def StampTellsUptoSaid : Prop := stampTellsUptoRow.holds Tryd.pinned (OpenSpec.upto stampTellsSpec)

/-- 'voyagelaw06.StampCmps', WHERE WHAT IT READS IS OF BULK AT MOST 1048576: true; the input reads as it did. -/
def stampCmpsUptoRow : OpenClaim := { program := "ytfjglbkoopicfaadoor", sum := "676e8dc518f52e1c933db0e88bf0659522fa4873ea7b8c95f1437a64c2927498", func := "voyage/voyagelaw06.StampCmps", spec := "stampCmps", inPlace := ["internal/abi.NoEscape", "internal/bytealg.MakeNoZero", "internal/bytealg.IndexByteString", "internal/bytealg.IndexString"], named := ["voyage/api.ErrTime", "internal/strconv.uint64pow10", "math/bits.deBruijn32tab", "math/bits.deBruijn64tab", "unicode/utf8.first", "unicode/utf8.acceptRanges", "internal/bytealg.MaxLen"], apart := false, laid := [("math/bits.deBruijn32tab", laid_math_bits_deBruijn32tab), ("math/bits.deBruijn64tab", laid_math_bits_deBruijn64tab), ("internal/strconv.uint64pow10", laid_internal_strconv_uint64pow10), ("unicode/utf8.acceptRanges", laid_unicode_utf8_acceptRanges), ("voyage/api.ErrTime", laid_voyage_api_ErrTime), ("unicode/utf8.first", laid_unicode_utf8_first)], narrowed := true }
def StampCmpsUptoSaid : Prop := stampCmpsUptoRow.holds Tryd.pinned (OpenSpec.upto stampCmpsSpec)

/-- 'voyagelaw06.StampBack', WHERE WHAT IT READS IS OF BULK AT MOST 1048576: true; the input reads as it did. -/
def stampBackUptoRow : OpenClaim := { program := "ytfjglbkoopicfaadoor", sum := "676e8dc518f52e1c933db0e88bf0659522fa4873ea7b8c95f1437a64c2927498", func := "voyage/voyagelaw06.StampBack", spec := "stampBack", inPlace := ["internal/abi.NoEscape", "internal/bytealg.MakeNoZero", "internal/bytealg.IndexByteString", "internal/bytealg.IndexString"], named := ["voyage/api.ErrTime", "internal/strconv.uint64pow10", "math/bits.deBruijn32tab", "math/bits.deBruijn64tab", "unicode/utf8.first", "unicode/utf8.acceptRanges", "internal/bytealg.MaxLen"], apart := false, laid := [("math/bits.deBruijn32tab", laid_math_bits_deBruijn32tab), ("math/bits.deBruijn64tab", laid_math_bits_deBruijn64tab), ("internal/strconv.uint64pow10", laid_internal_strconv_uint64pow10), ("unicode/utf8.acceptRanges", laid_unicode_utf8_acceptRanges), ("voyage/api.ErrTime", laid_voyage_api_ErrTime), ("unicode/utf8.first", laid_unicode_utf8_first)], narrowed := true }
def StampBackUptoSaid : Prop := stampBackUptoRow.holds Tryd.pinned (OpenSpec.upto stampBackSpec)

/-- 'voyagelaw06.StampOrders', WHERE WHAT IT READS IS OF BULK AT MOST 1048576: true; the input reads as it did. -/
def stampOrdersUptoRow : OpenClaim := { program := "ytfjglbkoopicfaadoor", sum := "676e8dc518f52e1c933db0e88bf0659522fa4873ea7b8c95f1437a64c2927498", func := "voyage/voyagelaw06.StampOrders", spec := "stampOrders", inPlace := ["internal/abi.NoEscape", "internal/bytealg.MakeNoZero", "internal/bytealg.IndexByteString", "internal/bytealg.IndexString"], named := ["voyage/api.ErrTime", "internal/strconv.uint64pow10", "math/bits.deBruijn32tab", "math/bits.deBruijn64tab", "unicode/utf8.first", "unicode/utf8.acceptRanges", "internal/bytealg.MaxLen"], apart := false, laid := [("math/bits.deBruijn32tab", laid_math_bits_deBruijn32tab), ("math/bits.deBruijn64tab", laid_math_bits_deBruijn64tab), ("internal/strconv.uint64pow10", laid_internal_strconv_uint64pow10), ("unicode/utf8.acceptRanges", laid_unicode_utf8_acceptRanges), ("voyage/api.ErrTime", laid_voyage_api_ErrTime), ("unicode/utf8.first", laid_unicode_utf8_first)], narrowed := true }
def StampOrdersUptoSaid : Prop := stampOrdersUptoRow.holds Tryd.pinned (OpenSpec.upto stampOrdersSpec)

/-- 'voyagelaw06.StampOffsets', WHERE WHAT IT READS IS OF BULK AT MOST 1048576: true; the input reads as it did. -/
def stampOffsetsUptoRow : OpenClaim := { program := "ytfjglbkoopicfaadoor", sum := "676e8dc518f52e1c933db0e88bf0659522fa4873ea7b8c95f1437a64c2927498", func := "voyage/voyagelaw06.StampOffsets", spec := "stampOffsets", inPlace := ["internal/abi.NoEscape", "internal/bytealg.MakeNoZero", "internal/bytealg.IndexByteString", "internal/bytealg.IndexString"], named := ["voyage/api.ErrTime", "internal/strconv.uint64pow10", "math/bits.deBruijn32tab", "math/bits.deBruijn64tab", "unicode/utf8.first", "unicode/utf8.acceptRanges", "internal/bytealg.MaxLen"], apart := false, laid := [("math/bits.deBruijn32tab", laid_math_bits_deBruijn32tab), ("math/bits.deBruijn64tab", laid_math_bits_deBruijn64tab), ("internal/strconv.uint64pow10", laid_internal_strconv_uint64pow10), ("unicode/utf8.acceptRanges", laid_unicode_utf8_acceptRanges), ("voyage/api.ErrTime", laid_voyage_api_ErrTime), ("unicode/utf8.first", laid_unicode_utf8_first)], narrowed := true }
def StampOffsetsUptoSaid : Prop := stampOffsetsUptoRow.holds Tryd.pinned (OpenSpec.upto stampOffsetsSpec)

/-- 'voyagelaw06.StampDays', WHERE WHAT IT READS IS OF BULK AT MOST 1048576: true; the input reads as it did. -/
def stampDaysUptoRow : OpenClaim := { program := "ytfjglbkoopicfaadoor", sum := "676e8dc518f52e1c933db0e88bf0659522fa4873ea7b8c95f1437a64c2927498", func := "voyage/voyagelaw06.StampDays", spec := "stampDays", inPlace := ["internal/abi.NoEscape", "internal/bytealg.MakeNoZero", "internal/bytealg.IndexByteString", "internal/bytealg.IndexString"], named := ["voyage/api.ErrTime", "internal/strconv.uint64pow10", "math/bits.deBruijn32tab", "math/bits.deBruijn64tab", "unicode/utf8.first", "unicode/utf8.acceptRanges", "internal/bytealg.MaxLen"], apart := false, laid := [("math/bits.deBruijn32tab", laid_math_bits_deBruijn32tab), ("math/bits.deBruijn64tab", laid_math_bits_deBruijn64tab), ("internal/strconv.uint64pow10", laid_internal_strconv_uint64pow10), ("unicode/utf8.acceptRanges", laid_unicode_utf8_acceptRanges), ("voyage/api.ErrTime", laid_voyage_api_ErrTime), ("unicode/utf8.first", laid_unicode_utf8_first)], narrowed := true }
def StampDaysUptoSaid : Prop := stampDaysUptoRow.holds Tryd.pinned (OpenSpec.upto stampDaysSpec)

/-- 'voyagelaw06.StampNext', WHERE WHAT IT READS IS OF BULK AT MOST 1048576: true; the input reads as it did. -/
def stampNextUptoRow : OpenClaim := { program := "ytfjglbkoopicfaadoor", sum := "676e8dc518f52e1c933db0e88bf0659522fa4873ea7b8c95f1437a64c2927498", func := "voyage/voyagelaw06.StampNext", spec := "stampNext", inPlace := ["internal/abi.NoEscape", "internal/bytealg.MakeNoZero", "internal/bytealg.IndexByteString", "internal/bytealg.IndexString"], named := ["voyage/api.ErrTime", "internal/strconv.uint64pow10", "math/bits.deBruijn32tab", "math/bits.deBruijn64tab", "unicode/utf8.first", "unicode/utf8.acceptRanges", "internal/bytealg.MaxLen"], apart := false, laid := [("math/bits.deBruijn32tab", laid_math_bits_deBruijn32tab), ("math/bits.deBruijn64tab", laid_math_bits_deBruijn64tab), ("internal/strconv.uint64pow10", laid_internal_strconv_uint64pow10), ("unicode/utf8.acceptRanges", laid_unicode_utf8_acceptRanges), ("voyage/api.ErrTime", laid_voyage_api_ErrTime), ("unicode/utf8.first", laid_unicode_utf8_first)], narrowed := true }
def StampNextUptoSaid : Prop := stampNextUptoRow.holds Tryd.pinned (OpenSpec.upto stampNextSpec)

end Rows
end Go.Proofs.YtfjglbkoopicfaaDoor
