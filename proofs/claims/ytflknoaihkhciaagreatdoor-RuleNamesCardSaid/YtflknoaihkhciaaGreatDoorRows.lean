/-
  NARROWER THAN 'FOR EVERY INPUT', by the rows' own cells (each row's printed sentence says how): DecSums: laid · RuleHolds: loops, laid · RuleNames: laid · RetryTakes: laid · RetryCatches: laid · DecWholes: laid · RetryCharges: laid · RetryEnds: laid · DecOrder: laid · DecDelays: laid · DecRises: laid.
  DERIVED. THE GIVEN ROWS OF THIS SEAT. 11 by the template 'for every input the law returns true; each argument reads behind the call as it read before'; 0 by the template 'total and deterministic' (their statements: YtflknoaihkhciaaGreatDoorTotals.lean).
  GIVEN WITH THE SEED: the statements are not yours to turn. If you find one false, say at which input.
  Laid BY PROGRAM, IN A SANDBOX (cutbox-rows.mjs): the forced cells as the released guide's own fill.sh prints them over the translation 6dd5ca960edbbfa4… (all of the seat's roots in one cut). By AI agents, Wed Nov 11 2026. No macro, syntax, notation, axiom, sorry.
-/
import Derived.Test.YtflknoaihkhciaaGreatDoorChecked
import GoSem.PinnedTables
import GoSem.Claim
import GoSem.ClaimJoined
import GoSem.ClaimMapViews
import Derived.JoinedTies
import Derived.KernelRfl
namespace Go.Proofs.YtflknoaihkhciaaGreatDoor
/- THE CELL 'sum', in the pinned program and in every row, IS THE sha256 OF THE DUMP (.gsa) THAT YtflknoaihkhciaaGreatDoorProg.lean LOADS. Nothing in Lean hashes anything: it is a label: what it is worth is what the hold of that sum in a sandbox is worth. -/
noncomputable def Tryz.pinned : Pinned := { name := "ytflknoaihkhciaagreatdoor", sum := "6dd5ca960edbbfa4956692b2af99dca756e7bda82bcc12bb9a56b0ed7d64c8b6", checked := Tryz.checked }
namespace Rows
def none {H : Type} : Left H := { results := [], args := [] }

/- WHAT THE LISTED PACKAGE-LEVEL VARIABLES READ AS WHEN THE CALL BEGINS. Each datum BY PROGRAM (the guide's laid-datum.mjs) off the statement by which the dump's own 'gosem.cut.vars' lays the variable. In a bare row this is a premise. The card (YtflknoaihkhciaaGreatDoorCards.lean) ties it to the program's text. -/
def laid_math_bits_deBruijn32tab {H : Type} : DataW H := .agg [.lit (.int .u8 0), .lit (.int .u8 1), .lit (.int .u8 28), .lit (.int .u8 2), .lit (.int .u8 29), .lit (.int .u8 14), .lit (.int .u8 24), .lit (.int .u8 3), .lit (.int .u8 30), .lit (.int .u8 22), .lit (.int .u8 20), .lit (.int .u8 15), .lit (.int .u8 25), .lit (.int .u8 17), .lit (.int .u8 4), .lit (.int .u8 8), .lit (.int .u8 31), .lit (.int .u8 27), .lit (.int .u8 13), .lit (.int .u8 23), .lit (.int .u8 21), .lit (.int .u8 19), .lit (.int .u8 16), .lit (.int .u8 7), .lit (.int .u8 26), .lit (.int .u8 12), .lit (.int .u8 18), .lit (.int .u8 6), .lit (.int .u8 11), .lit (.int .u8 5), .lit (.int .u8 10), .lit (.int .u8 9)]
def laid_math_bits_deBruijn64tab {H : Type} : DataW H := .agg [.lit (.int .u8 0), .lit (.int .u8 1), .lit (.int .u8 56), .lit (.int .u8 2), .lit (.int .u8 57), .lit (.int .u8 49), .lit (.int .u8 28), .lit (.int .u8 3), .lit (.int .u8 61), .lit (.int .u8 58), .lit (.int .u8 42), .lit (.int .u8 50), .lit (.int .u8 38), .lit (.int .u8 29), .lit (.int .u8 17), .lit (.int .u8 4), .lit (.int .u8 62), .lit (.int .u8 47), .lit (.int .u8 59), .lit (.int .u8 36), .lit (.int .u8 45), .lit (.int .u8 43), .lit (.int .u8 51), .lit (.int .u8 22), .lit (.int .u8 53), .lit (.int .u8 39), .lit (.int .u8 33), .lit (.int .u8 30), .lit (.int .u8 24), .lit (.int .u8 18), .lit (.int .u8 12), .lit (.int .u8 5), .lit (.int .u8 63), .lit (.int .u8 55), .lit (.int .u8 48), .lit (.int .u8 27), .lit (.int .u8 60), .lit (.int .u8 41), .lit (.int .u8 37), .lit (.int .u8 16), .lit (.int .u8 46), .lit (.int .u8 35), .lit (.int .u8 44), .lit (.int .u8 21), .lit (.int .u8 52), .lit (.int .u8 32), .lit (.int .u8 23), .lit (.int .u8 11), .lit (.int .u8 54), .lit (.int .u8 26), .lit (.int .u8 40), .lit (.int .u8 15), .lit (.int .u8 34), .lit (.int .u8 20), .lit (.int .u8 31), .lit (.int .u8 10), .lit (.int .u8 25), .lit (.int .u8 14), .lit (.int .u8 19), .lit (.int .u8 9), .lit (.int .u8 13), .lit (.int .u8 8), .lit (.int .u8 7), .lit (.int .u8 6)]
def laid_internal_strconv_uint64pow10 {H : Type} : DataW H := .agg [.lit (.int .u64 1), .lit (.int .u64 10), .lit (.int .u64 100), .lit (.int .u64 1000), .lit (.int .u64 10000), .lit (.int .u64 100000), .lit (.int .u64 1000000), .lit (.int .u64 10000000), .lit (.int .u64 100000000), .lit (.int .u64 1000000000), .lit (.int .u64 10000000000), .lit (.int .u64 100000000000), .lit (.int .u64 1000000000000), .lit (.int .u64 10000000000000), .lit (.int .u64 100000000000000), .lit (.int .u64 1000000000000000), .lit (.int .u64 10000000000000000), .lit (.int .u64 100000000000000000), .lit (.int .u64 1000000000000000000), .lit (.int .u64 10000000000000000000)]
def laid_unicode_utf8_acceptRanges {H : Type} : DataW H := .agg [.agg [.lit (.int .u8 128), .lit (.int .u8 191)], .agg [.lit (.int .u8 160), .lit (.int .u8 191)], .agg [.lit (.int .u8 128), .lit (.int .u8 159)], .agg [.lit (.int .u8 144), .lit (.int .u8 191)], .agg [.lit (.int .u8 128), .lit (.int .u8 143)], .agg [.lit (.int .u8 0), .lit (.int .u8 0)], .agg [.lit (.int .u8 0), .lit (.int .u8 0)], .agg [.lit (.int .u8 0), .lit (.int .u8 0)], .agg [.lit (.int .u8 0), .lit (.int .u8 0)], .agg [.lit (.int .u8 0), .lit (.int .u8 0)], .agg [.lit (.int .u8 0), .lit (.int .u8 0)], .agg [.lit (.int .u8 0), .lit (.int .u8 0)], .agg [.lit (.int .u8 0), .lit (.int .u8 0)], .agg [.lit (.int .u8 0), .lit (.int .u8 0)], .agg [.lit (.int .u8 0), .lit (.int .u8 0)], .agg [.lit (.int .u8 0), .lit (.int .u8 0)]]
def laid_strconv_ErrRange {H : Type} : DataW H := .iface "*errors.errorString" (.ptr (.agg [.lit (.string [118, 97, 108, 117, 101, 32, 111, 117, 116, 32, 111, 102, 32, 114, 97, 110, 103, 101])]))
def laid_strconv_ErrSyntax {H : Type} : DataW H := .iface "*errors.errorString" (.ptr (.agg [.lit (.string [105, 110, 118, 97, 108, 105, 100, 32, 115, 121, 110, 116, 97, 120])]))
def laid_voyage_api_ErrNumber {H : Type} : DataW H := .iface "*errors.errorString" (.ptr (.agg [.lit (.string [118, 111, 121, 97, 103, 101, 58, 32, 110, 111, 32, 110, 117, 109, 98, 101, 114])]))
def laid_voyage_api_ErrExponent {H : Type} : DataW H := .iface "*errors.errorString" (.ptr (.agg [.lit (.string [118, 111, 121, 97, 103, 101, 58, 32, 97, 110, 32, 101, 120, 112, 111, 110, 101, 110, 116, 32, 97, 98, 111, 118, 101, 32, 116, 104, 101, 32, 98, 111, 117, 110, 100])]))
/-- One of Go's own tables, pinned by name: the form's constant. -/
def laid_unicode_utf8_first : DataW Unit := Go.Pinned.utf8First
def laid_voyage_api_ErrPath {H : Type} : DataW H := .iface "*errors.errorString" (.ptr (.agg [.lit (.string [118, 111, 121, 97, 103, 101, 58, 32, 110, 111, 32, 112, 97, 116, 104])]))
def laid_voyage_api_ErrKind {H : Type} : DataW H := .iface "*errors.errorString" (.ptr (.agg [.lit (.string [118, 111, 121, 97, 103, 101, 58, 32, 97, 32, 118, 97, 108, 117, 101, 32, 111, 102, 32, 97, 110, 111, 116, 104, 101, 114, 32, 107, 105, 110, 100])]))
def laid_voyage_api_ErrTime {H : Type} : DataW H := .iface "*errors.errorString" (.ptr (.agg [.lit (.string [118, 111, 121, 97, 103, 101, 58, 32, 110, 111, 32, 109, 111, 109, 101, 110, 116])]))

/-- 'voyagelaw01.DecSums': WHATEVER THE INPUT: true; the input reads as it did. -/
def decSumsSpec : ChangeSpec := { name := "decSums", fn := fun _ => fun
  | [d1, d2] => { results := [.lit (.bool true)], args := [d1, d2] }
  | _ => none }
def decSumsRow : OpenClaim := { program := "ytflknoaihkhciaagreatdoor", sum := "6dd5ca960edbbfa4956692b2af99dca756e7bda82bcc12bb9a56b0ed7d64c8b6", func := "voyage/voyagelaw01.DecSums", spec := "decSums", inPlace := ["internal/abi.NoEscape", "internal/bytealg.MakeNoZero", "internal/bytealg.IndexByteString", "internal/bytealg.IndexString", "internal/bytealg.abigen_runtime_cmpstring"], unfollowed := true, recurses := true, named := ["voyage/api.ErrNumber", "voyage/api.ErrExponent", "unicode/utf8.first", "unicode/utf8.acceptRanges", "strconv.ErrSyntax", "strconv.ErrRange", "internal/strconv.uint64pow10", "math/bits.deBruijn32tab", "math/bits.deBruijn64tab", "internal/bytealg.MaxLen"], apart := false, laid := [("math/bits.deBruijn32tab", laid_math_bits_deBruijn32tab), ("math/bits.deBruijn64tab", laid_math_bits_deBruijn64tab), ("internal/strconv.uint64pow10", laid_internal_strconv_uint64pow10), ("unicode/utf8.acceptRanges", laid_unicode_utf8_acceptRanges), ("strconv.ErrRange", laid_strconv_ErrRange), ("strconv.ErrSyntax", laid_strconv_ErrSyntax), ("voyage/api.ErrNumber", laid_voyage_api_ErrNumber), ("voyage/api.ErrExponent", laid_voyage_api_ErrExponent), ("unicode/utf8.first", laid_unicode_utf8_first)] }
def DecSumsSaid : Prop := decSumsRow.holds Tryz.pinned (OpenSpec.ofChange decSumsSpec)

/-- ITS FALSE NEIGHBOUR: 'it returns false'. Refute it at one input. -/
def decSumsWrong : ChangeSpec := { name := "decSums", fn := fun _ => fun
  | [d1, d2] => { results := [.lit (.bool false)], args := [d1, d2] }
  | _ => none }
def DecSumsWrongFalsely : Prop := decSumsRow.holds Tryz.pinned (OpenSpec.ofChange decSumsWrong)

/-- 'voyagelaw07.RuleHolds': WHATEVER THE INPUT: true; the input reads as it did. -/
def ruleHoldsSpec : ChangeSpec := { name := "ruleHolds", fn := fun _ => fun
  | [d1, d2, d3] => { results := [.lit (.bool true)], args := [d1, d2, d3] }
  | _ => none }
def ruleHoldsRow : OpenClaim := { program := "ytflknoaihkhciaagreatdoor", sum := "6dd5ca960edbbfa4956692b2af99dca756e7bda82bcc12bb9a56b0ed7d64c8b6", func := "voyage/voyagelaw07.RuleHolds", spec := "ruleHolds", inPlace := ["internal/abi.NoEscape", "internal/bytealg.MakeNoZero", "internal/bytealg.IndexByteString", "internal/bytealg.IndexString", "internal/bytealg.abigen_runtime_cmpstring", "slices.overlaps[voyage/api.Field]"], unfollowed := true, recurses := true, named := ["voyage/api.ErrPath", "voyage/api.ErrKind", "unicode/utf8.first", "unicode/utf8.acceptRanges", "voyage/api.ErrTime", "internal/bytealg.MaxLen"], loops := true, apart := false, laid := [("unicode/utf8.acceptRanges", laid_unicode_utf8_acceptRanges), ("voyage/api.ErrPath", laid_voyage_api_ErrPath), ("voyage/api.ErrKind", laid_voyage_api_ErrKind), ("voyage/api.ErrTime", laid_voyage_api_ErrTime), ("unicode/utf8.first", laid_unicode_utf8_first)] }
def RuleHoldsSaid : Prop := ruleHoldsRow.holds Tryz.pinned (OpenSpec.ofChange ruleHoldsSpec)

/-- ITS FALSE NEIGHBOUR: 'it returns false'. Refute it at one input. -/
def ruleHoldsWrong : ChangeSpec := { name := "ruleHolds", fn := fun _ => fun
  | [d1, d2, d3] => { results := [.lit (.bool false)], args := [d1, d2, d3] }
  | _ => none }
def RuleHoldsWrongFalsely : Prop := ruleHoldsRow.holds Tryz.pinned (OpenSpec.ofChange ruleHoldsWrong)

/-- 'voyagelaw07.RuleNames': WHATEVER THE INPUT: true; the input reads as it did. -/
def ruleNamesSpec : ChangeSpec := { name := "ruleNames", fn := fun _ => fun
  | [d] => { results := [.lit (.bool true)], args := [d] }
  | _ => none }
def ruleNamesRow : OpenClaim := { program := "ytflknoaihkhciaagreatdoor", sum := "6dd5ca960edbbfa4956692b2af99dca756e7bda82bcc12bb9a56b0ed7d64c8b6", func := "voyage/voyagelaw07.RuleNames", spec := "ruleNames", inPlace := ["internal/abi.NoEscape", "internal/bytealg.MakeNoZero", "internal/bytealg.IndexByteString", "internal/bytealg.IndexString", "internal/bytealg.abigen_runtime_cmpstring", "slices.overlaps[voyage/api.Field]"], unfollowed := true, recurses := true, named := ["voyage/api.ErrPath", "voyage/api.ErrKind", "unicode/utf8.first", "unicode/utf8.acceptRanges", "voyage/api.ErrTime", "internal/bytealg.MaxLen"], apart := false, laid := [("unicode/utf8.acceptRanges", laid_unicode_utf8_acceptRanges), ("voyage/api.ErrPath", laid_voyage_api_ErrPath), ("voyage/api.ErrKind", laid_voyage_api_ErrKind), ("voyage/api.ErrTime", laid_voyage_api_ErrTime), ("unicode/utf8.first", laid_unicode_utf8_first)] }
def RuleNamesSaid : Prop := ruleNamesRow.holds Tryz.pinned (OpenSpec.ofChange ruleNamesSpec)

/-- ITS FALSE NEIGHBOUR: 'it returns false'. Refute it at one input. -/
def ruleNamesWrong : ChangeSpec := { name := "ruleNames", fn := fun _ => fun
  | [d] => { results := [.lit (.bool false)], args := [d] }
  | _ => none }
def RuleNamesWrongFalsely : Prop := ruleNamesRow.holds Tryz.pinned (OpenSpec.ofChange ruleNamesWrong)

/-- 'voyagelaw10.RetryTakes': WHATEVER THE INPUT: true; the input reads as it did. -/
def retryTakesSpec : ChangeSpec := { name := "retryTakes", fn := fun _ => fun
  | [d1, d2, d3] => { results := [.lit (.bool true)], args := [d1, d2, d3] }
  | _ => none }
def retryTakesRow : OpenClaim := { program := "ytflknoaihkhciaagreatdoor", sum := "6dd5ca960edbbfa4956692b2af99dca756e7bda82bcc12bb9a56b0ed7d64c8b6", func := "voyage/voyagelaw10.RetryTakes", spec := "retryTakes", inPlace := ["internal/abi.NoEscape", "internal/bytealg.MakeNoZero", "internal/bytealg.IndexByteString", "internal/bytealg.IndexString", "internal/bytealg.abigen_runtime_cmpstring"], unfollowed := true, recurses := true, named := ["unicode/utf8.first", "unicode/utf8.acceptRanges", "internal/strconv.uint64pow10", "math/bits.deBruijn32tab", "math/bits.deBruijn64tab", "strconv.ErrSyntax", "strconv.ErrRange", "internal/bytealg.MaxLen"], apart := false, laid := [("math/bits.deBruijn32tab", laid_math_bits_deBruijn32tab), ("math/bits.deBruijn64tab", laid_math_bits_deBruijn64tab), ("internal/strconv.uint64pow10", laid_internal_strconv_uint64pow10), ("unicode/utf8.acceptRanges", laid_unicode_utf8_acceptRanges), ("strconv.ErrRange", laid_strconv_ErrRange), ("strconv.ErrSyntax", laid_strconv_ErrSyntax), ("unicode/utf8.first", laid_unicode_utf8_first)] }
def RetryTakesSaid : Prop := retryTakesRow.holds Tryz.pinned (OpenSpec.ofChange retryTakesSpec)

/-- ITS FALSE NEIGHBOUR: 'it returns false'. Refute it at one input. -/
def retryTakesWrong : ChangeSpec := { name := "retryTakes", fn := fun _ => fun
  | [d1, d2, d3] => { results := [.lit (.bool false)], args := [d1, d2, d3] }
  | _ => none }
def RetryTakesWrongFalsely : Prop := retryTakesRow.holds Tryz.pinned (OpenSpec.ofChange retryTakesWrong)

/-- 'voyagelaw10.RetryCatches': WHATEVER THE INPUT: true; the input reads as it did. -/
def retryCatchesSpec : ChangeSpec := { name := "retryCatches", fn := fun _ => fun
  | [d1, d2] => { results := [.lit (.bool true)], args := [d1, d2] }
  | _ => none }
def retryCatchesRow : OpenClaim := { program := "ytflknoaihkhciaagreatdoor", sum := "6dd5ca960edbbfa4956692b2af99dca756e7bda82bcc12bb9a56b0ed7d64c8b6", func := "voyage/voyagelaw10.RetryCatches", spec := "retryCatches", inPlace := ["internal/abi.NoEscape", "internal/bytealg.MakeNoZero", "internal/bytealg.IndexByteString", "internal/bytealg.IndexString", "internal/bytealg.abigen_runtime_cmpstring"], unfollowed := true, recurses := true, named := ["unicode/utf8.first", "unicode/utf8.acceptRanges", "internal/strconv.uint64pow10", "math/bits.deBruijn32tab", "math/bits.deBruijn64tab", "strconv.ErrSyntax", "strconv.ErrRange", "internal/bytealg.MaxLen"], apart := false, laid := [("math/bits.deBruijn32tab", laid_math_bits_deBruijn32tab), ("math/bits.deBruijn64tab", laid_math_bits_deBruijn64tab), ("internal/strconv.uint64pow10", laid_internal_strconv_uint64pow10), ("unicode/utf8.acceptRanges", laid_unicode_utf8_acceptRanges), ("strconv.ErrRange", laid_strconv_ErrRange), ("strconv.ErrSyntax", laid_strconv_ErrSyntax), ("unicode/utf8.first", laid_unicode_utf8_first)] }
def RetryCatchesSaid : Prop := retryCatchesRow.holds Tryz.pinned (OpenSpec.ofChange retryCatchesSpec)

/-- ITS FALSE NEIGHBOUR: 'it returns false'. Refute it at one input. -/
def retryCatchesWrong : ChangeSpec := { name := "retryCatches", fn := fun _ => fun
  | [d1, d2] => { results := [.lit (.bool false)], args := [d1, d2] }
  | _ => none }
def RetryCatchesWrongFalsely : Prop := retryCatchesRow.holds Tryz.pinned (OpenSpec.ofChange retryCatchesWrong)

/-- 'voyagelaw01.DecWholes': WHATEVER THE INPUT: true; the input reads as it did. -/
def decWholesSpec : ChangeSpec := { name := "decWholes", fn := fun _ => fun
  | [d1, d2] => { results := [.lit (.bool true)], args := [d1, d2] }
  | _ => none }
def decWholesRow : OpenClaim := { program := "ytflknoaihkhciaagreatdoor", sum := "6dd5ca960edbbfa4956692b2af99dca756e7bda82bcc12bb9a56b0ed7d64c8b6", func := "voyage/voyagelaw01.DecWholes", spec := "decWholes", inPlace := ["internal/abi.NoEscape", "internal/bytealg.MakeNoZero", "internal/bytealg.IndexByteString", "internal/bytealg.IndexString", "internal/bytealg.abigen_runtime_cmpstring"], unfollowed := true, recurses := true, named := ["voyage/api.ErrNumber", "voyage/api.ErrExponent", "unicode/utf8.first", "unicode/utf8.acceptRanges", "internal/strconv.uint64pow10", "math/bits.deBruijn32tab", "math/bits.deBruijn64tab", "strconv.ErrSyntax", "strconv.ErrRange", "internal/bytealg.MaxLen"], apart := false, laid := [("math/bits.deBruijn32tab", laid_math_bits_deBruijn32tab), ("math/bits.deBruijn64tab", laid_math_bits_deBruijn64tab), ("internal/strconv.uint64pow10", laid_internal_strconv_uint64pow10), ("unicode/utf8.acceptRanges", laid_unicode_utf8_acceptRanges), ("strconv.ErrRange", laid_strconv_ErrRange), ("strconv.ErrSyntax", laid_strconv_ErrSyntax), ("voyage/api.ErrNumber", laid_voyage_api_ErrNumber), ("voyage/api.ErrExponent", laid_voyage_api_ErrExponent), ("unicode/utf8.first", laid_unicode_utf8_first)] }
def DecWholesSaid : Prop := decWholesRow.holds Tryz.pinned (OpenSpec.ofChange decWholesSpec)

/-- ITS FALSE NEIGHBOUR: 'it returns false'. Refute it at one input. -/
def decWholesWrong : ChangeSpec := { name := "decWholes", fn := fun _ => fun
  | [d1, d2] => { results := [.lit (.bool false)], args := [d1, d2] }
  | _ => none }
def DecWholesWrongFalsely : Prop := decWholesRow.holds Tryz.pinned (OpenSpec.ofChange decWholesWrong)

/-- 'voyagelaw10.RetryCharges': WHATEVER THE INPUT: true; the input reads as it did. -/
def retryChargesSpec : ChangeSpec := { name := "retryCharges", fn := fun _ => fun
  | [d1, d2] => { results := [.lit (.bool true)], args := [d1, d2] }
  | _ => none }
def retryChargesRow : OpenClaim := { program := "ytflknoaihkhciaagreatdoor", sum := "6dd5ca960edbbfa4956692b2af99dca756e7bda82bcc12bb9a56b0ed7d64c8b6", func := "voyage/voyagelaw10.RetryCharges", spec := "retryCharges", inPlace := ["internal/abi.NoEscape", "internal/bytealg.MakeNoZero", "internal/bytealg.IndexByteString", "internal/bytealg.IndexString", "internal/bytealg.abigen_runtime_cmpstring"], unfollowed := true, recurses := true, named := ["unicode/utf8.first", "unicode/utf8.acceptRanges", "internal/strconv.uint64pow10", "math/bits.deBruijn32tab", "math/bits.deBruijn64tab", "strconv.ErrSyntax", "strconv.ErrRange", "internal/bytealg.MaxLen"], apart := false, laid := [("math/bits.deBruijn32tab", laid_math_bits_deBruijn32tab), ("math/bits.deBruijn64tab", laid_math_bits_deBruijn64tab), ("internal/strconv.uint64pow10", laid_internal_strconv_uint64pow10), ("unicode/utf8.acceptRanges", laid_unicode_utf8_acceptRanges), ("strconv.ErrRange", laid_strconv_ErrRange), ("strconv.ErrSyntax", laid_strconv_ErrSyntax), ("unicode/utf8.first", laid_unicode_utf8_first)] }
def RetryChargesSaid : Prop := retryChargesRow.holds Tryz.pinned (OpenSpec.ofChange retryChargesSpec)

/-- ITS FALSE NEIGHBOUR: 'it returns false'. Refute it at one input. -/
def retryChargesWrong : ChangeSpec := { name := "retryCharges", fn := fun _ => fun
  | [d1, d2] => { results := [.lit (.bool false)], args := [d1, d2] }
  | _ => none }
def RetryChargesWrongFalsely : Prop := retryChargesRow.holds Tryz.pinned (OpenSpec.ofChange retryChargesWrong)

/-- 'voyagelaw10.RetryEnds': WHATEVER THE INPUT: true; the input reads as it did. -/
def retryEndsSpec : ChangeSpec := { name := "retryEnds", fn := fun _ => fun
  | [d1, d2] => { results := [.lit (.bool true)], args := [d1, d2] }
  | _ => none }
def retryEndsRow : OpenClaim := { program := "ytflknoaihkhciaagreatdoor", sum := "6dd5ca960edbbfa4956692b2af99dca756e7bda82bcc12bb9a56b0ed7d64c8b6", func := "voyage/voyagelaw10.RetryEnds", spec := "retryEnds", inPlace := ["internal/abi.NoEscape", "internal/bytealg.MakeNoZero", "internal/bytealg.IndexByteString", "internal/bytealg.IndexString", "internal/bytealg.abigen_runtime_cmpstring"], unfollowed := true, recurses := true, named := ["unicode/utf8.first", "unicode/utf8.acceptRanges", "internal/strconv.uint64pow10", "math/bits.deBruijn32tab", "math/bits.deBruijn64tab", "strconv.ErrSyntax", "strconv.ErrRange", "internal/bytealg.MaxLen"], apart := false, laid := [("math/bits.deBruijn32tab", laid_math_bits_deBruijn32tab), ("math/bits.deBruijn64tab", laid_math_bits_deBruijn64tab), ("internal/strconv.uint64pow10", laid_internal_strconv_uint64pow10), ("unicode/utf8.acceptRanges", laid_unicode_utf8_acceptRanges), ("strconv.ErrRange", laid_strconv_ErrRange), ("strconv.ErrSyntax", laid_strconv_ErrSyntax), ("unicode/utf8.first", laid_unicode_utf8_first)] }
def RetryEndsSaid : Prop := retryEndsRow.holds Tryz.pinned (OpenSpec.ofChange retryEndsSpec)

/-- ITS FALSE NEIGHBOUR: 'it returns false'. Refute it at one input. -/
def retryEndsWrong : ChangeSpec := { name := "retryEnds", fn := fun _ => fun
  | [d1, d2] => { results := [.lit (.bool false)], args := [d1, d2] }
  | _ => none }
def RetryEndsWrongFalsely : Prop := retryEndsRow.holds Tryz.pinned (OpenSpec.ofChange retryEndsWrong)

/-- 'voyagelaw01.DecOrder': WHATEVER THE INPUT: true; the input reads as it did. -/
def decOrderSpec : ChangeSpec := { name := "decOrder", fn := fun _ => fun
  | [d1, d2, d3] => { results := [.lit (.bool true)], args := [d1, d2, d3] }
  | _ => none }
def decOrderRow : OpenClaim := { program := "ytflknoaihkhciaagreatdoor", sum := "6dd5ca960edbbfa4956692b2af99dca756e7bda82bcc12bb9a56b0ed7d64c8b6", func := "voyage/voyagelaw01.DecOrder", spec := "decOrder", inPlace := ["internal/abi.NoEscape", "internal/bytealg.MakeNoZero", "internal/bytealg.IndexByteString", "internal/bytealg.IndexString", "internal/bytealg.abigen_runtime_cmpstring"], unfollowed := true, recurses := true, named := ["voyage/api.ErrNumber", "voyage/api.ErrExponent", "unicode/utf8.first", "unicode/utf8.acceptRanges", "strconv.ErrSyntax", "strconv.ErrRange", "internal/strconv.uint64pow10", "math/bits.deBruijn32tab", "math/bits.deBruijn64tab", "internal/bytealg.MaxLen"], apart := false, laid := [("math/bits.deBruijn32tab", laid_math_bits_deBruijn32tab), ("math/bits.deBruijn64tab", laid_math_bits_deBruijn64tab), ("internal/strconv.uint64pow10", laid_internal_strconv_uint64pow10), ("unicode/utf8.acceptRanges", laid_unicode_utf8_acceptRanges), ("strconv.ErrRange", laid_strconv_ErrRange), ("strconv.ErrSyntax", laid_strconv_ErrSyntax), ("voyage/api.ErrNumber", laid_voyage_api_ErrNumber), ("voyage/api.ErrExponent", laid_voyage_api_ErrExponent), ("unicode/utf8.first", laid_unicode_utf8_first)] }
def DecOrderSaid : Prop := decOrderRow.holds Tryz.pinned (OpenSpec.ofChange decOrderSpec)

/-- ITS FALSE NEIGHBOUR: 'it returns false'. Refute it at one input. -/
def decOrderWrong : ChangeSpec := { name := "decOrder", fn := fun _ => fun
  | [d1, d2, d3] => { results := [.lit (.bool false)], args := [d1, d2, d3] }
  | _ => none }
def DecOrderWrongFalsely : Prop := decOrderRow.holds Tryz.pinned (OpenSpec.ofChange decOrderWrong)

/-- 'voyagelaw01.DecDelays': WHATEVER THE INPUT: true; the input reads as it did. -/
def decDelaysSpec : ChangeSpec := { name := "decDelays", fn := fun _ => fun
  | [d1, d2, d3, d4] => { results := [.lit (.bool true)], args := [d1, d2, d3, d4] }
  | _ => none }
def decDelaysRow : OpenClaim := { program := "ytflknoaihkhciaagreatdoor", sum := "6dd5ca960edbbfa4956692b2af99dca756e7bda82bcc12bb9a56b0ed7d64c8b6", func := "voyage/voyagelaw01.DecDelays", spec := "decDelays", inPlace := ["internal/abi.NoEscape", "internal/bytealg.MakeNoZero", "internal/bytealg.IndexByteString", "internal/bytealg.IndexString", "internal/bytealg.abigen_runtime_cmpstring"], unfollowed := true, recurses := true, named := ["voyage/api.ErrNumber", "voyage/api.ErrExponent", "unicode/utf8.first", "unicode/utf8.acceptRanges", "internal/strconv.uint64pow10", "math/bits.deBruijn32tab", "math/bits.deBruijn64tab", "strconv.ErrSyntax", "strconv.ErrRange", "internal/bytealg.MaxLen"], apart := false, laid := [("math/bits.deBruijn32tab", laid_math_bits_deBruijn32tab), ("math/bits.deBruijn64tab", laid_math_bits_deBruijn64tab), ("internal/strconv.uint64pow10", laid_internal_strconv_uint64pow10), ("unicode/utf8.acceptRanges", laid_unicode_utf8_acceptRanges), ("strconv.ErrRange", laid_strconv_ErrRange), ("strconv.ErrSyntax", laid_strconv_ErrSyntax), ("voyage/api.ErrNumber", laid_voyage_api_ErrNumber), ("voyage/api.ErrExponent", laid_voyage_api_ErrExponent), ("unicode/utf8.first", laid_unicode_utf8_first)] }
def DecDelaysSaid : Prop := decDelaysRow.holds Tryz.pinned (OpenSpec.ofChange decDelaysSpec)

/-- ITS FALSE NEIGHBOUR: 'it returns false'. Refute it at one input. -/
def decDelaysWrong : ChangeSpec := { name := "decDelays", fn := fun _ => fun
  | [d1, d2, d3, d4] => { results := [.lit (.bool false)], args := [d1, d2, d3, d4] }
  | _ => none }
def DecDelaysWrongFalsely : Prop := decDelaysRow.holds Tryz.pinned (OpenSpec.ofChange decDelaysWrong)

/-- 'voyagelaw01.DecRises': WHATEVER THE INPUT: true; the input reads as it did. -/
def decRisesSpec : ChangeSpec := { name := "decRises", fn := fun _ => fun
  | [d1, d2, d3, d4, d5, d6, d7] => { results := [.lit (.bool true)], args := [d1, d2, d3, d4, d5, d6, d7] }
  | _ => none }
def decRisesRow : OpenClaim := { program := "ytflknoaihkhciaagreatdoor", sum := "6dd5ca960edbbfa4956692b2af99dca756e7bda82bcc12bb9a56b0ed7d64c8b6", func := "voyage/voyagelaw01.DecRises", spec := "decRises", inPlace := ["internal/abi.NoEscape", "internal/bytealg.MakeNoZero", "internal/bytealg.IndexByteString", "internal/bytealg.IndexString", "internal/bytealg.abigen_runtime_cmpstring"], unfollowed := true, recurses := true, named := ["voyage/api.ErrNumber", "voyage/api.ErrExponent", "unicode/utf8.first", "unicode/utf8.acceptRanges", "internal/strconv.uint64pow10", "math/bits.deBruijn32tab", "math/bits.deBruijn64tab", "strconv.ErrSyntax", "strconv.ErrRange", "internal/bytealg.MaxLen"], apart := false, laid := [("math/bits.deBruijn32tab", laid_math_bits_deBruijn32tab), ("math/bits.deBruijn64tab", laid_math_bits_deBruijn64tab), ("internal/strconv.uint64pow10", laid_internal_strconv_uint64pow10), ("unicode/utf8.acceptRanges", laid_unicode_utf8_acceptRanges), ("strconv.ErrRange", laid_strconv_ErrRange), ("strconv.ErrSyntax", laid_strconv_ErrSyntax), ("voyage/api.ErrNumber", laid_voyage_api_ErrNumber), ("voyage/api.ErrExponent", laid_voyage_api_ErrExponent), ("unicode/utf8.first", laid_unicode_utf8_first)] }
def DecRisesSaid : Prop := decRisesRow.holds Tryz.pinned (OpenSpec.ofChange decRisesSpec)

/-- ITS FALSE NEIGHBOUR: 'it returns false'. Refute it at one input. -/
def decRisesWrong : ChangeSpec := { name := "decRises", fn := fun _ => fun
  | [d1, d2, d3, d4, d5, d6, d7] => { results := [.lit (.bool false)], args := [d1, d2, d3, d4, d5, d6, d7] }
  | _ => none }
def DecRisesWrongFalsely : Prop := decRisesRow.holds Tryz.pinned (OpenSpec.ofChange decRisesWrong)

/- THE SECOND FORM. 'bulk': how many values and letters a reading holds, each counted each time it is reached (what is shared counts as often as it is met; a slice's spare places count too). A statement '..UptoSaid' is the law's where the arguments, and the package variables that the reading takes, are together of bulk at most 1048576: NARROWER than '..Said'. Prove '..Said' where nothing that the law and all that it calls make is longer than what came in: it says more and counts as full. Else prove '..UptoSaid'. A law counts once. -/
mutual
def uptoBulk {H : Type} : DataW H → Nat
  | .lit (.string bytes) => bytes.length + 1
  | .lit _ => 1
  | .nil => 1
  | .ptr d => uptoBulk d + 1
  | .slice elems spare => uptoBulkAll elems + uptoBulkAll spare + 1
  | .agg parts => uptoBulkAll parts + 1
  | .iface _ d => uptoBulk d + 1
  | .map entries => uptoBulkEntries entries + 1
  | .held _ => 1
def uptoBulkAll {H : Type} : List (DataW H) → Nat
  | [] => 0
  | d :: r => uptoBulk d + uptoBulkAll r
def uptoBulkEntries {H : Type} : List (Lit × DataW H) → Nat
  | [] => 0
  | x :: r => uptoBulkEntry x + uptoBulkEntries r
def uptoBulkEntry {H : Type} : Lit × DataW H → Nat
  | (.string bytes, d) => bytes.length + uptoBulk d + 1
  | (_, d) => uptoBulk d + 1
 end
def uptoSmall : (H : Type) → List (DataW H) → Bool := fun _ ds => decide (uptoBulkAll ds ≤ 1048576)
def OpenSpec.upto (s : _root_.Go.ChangeSpec) : _root_.Go.OpenSpec := { _root_.Go.OpenSpec.ofChange s with cond := some uptoSmall }

/-- 'voyagelaw01.DecSums', WHERE WHAT IT READS IS OF BULK AT MOST 1048576: true; the input reads as it did. -/
def decSumsUptoRow : OpenClaim := { program := "ytflknoaihkhciaagreatdoor", sum := "6dd5ca960edbbfa4956692b2af99dca756e7bda82bcc12bb9a56b0ed7d64c8b6", func := "voyage/voyagelaw01.DecSums", spec := "decSums", inPlace := ["internal/abi.NoEscape", "internal/bytealg.MakeNoZero", "internal/bytealg.IndexByteString", "internal/bytealg.IndexString", "internal/bytealg.abigen_runtime_cmpstring"], unfollowed := true, recurses := true, named := ["voyage/api.ErrNumber", "voyage/api.ErrExponent", "unicode/utf8.first", "unicode/utf8.acceptRanges", "strconv.ErrSyntax", "strconv.ErrRange", "internal/strconv.uint64pow10", "math/bits.deBruijn32tab", "math/bits.deBruijn64tab", "internal/bytealg.MaxLen"], apart := false, laid := [("math/bits.deBruijn32tab", laid_math_bits_deBruijn32tab), ("math/bits.deBruijn64tab", laid_math_bits_deBruijn64tab), ("internal/strconv.uint64pow10", laid_internal_strconv_uint64pow10), ("unicode/utf8.acceptRanges", laid_unicode_utf8_acceptRanges), ("strconv.ErrRange", laid_strconv_ErrRange), ("strconv.ErrSyntax", laid_strconv_ErrSyntax), ("voyage/api.ErrNumber", laid_voyage_api_ErrNumber), ("voyage/api.ErrExponent", laid_voyage_api_ErrExponent), ("unicode/utf8.first", laid_unicode_utf8_first)], narrowed := true }
def DecSumsUptoSaid : Prop := decSumsUptoRow.holds Tryz.pinned (OpenSpec.upto decSumsSpec)

/-- 'voyagelaw07.RuleHolds', WHERE WHAT IT READS IS OF BULK AT MOST 1048576: true; the input reads as it did. -/
def ruleHoldsUptoRow : OpenClaim := { program := "ytflknoaihkhciaagreatdoor", sum := "6dd5ca960edbbfa4956692b2af99dca756e7bda82bcc12bb9a56b0ed7d64c8b6", func := "voyage/voyagelaw07.RuleHolds", spec := "ruleHolds", inPlace := ["internal/abi.NoEscape", "internal/bytealg.MakeNoZero", "internal/bytealg.IndexByteString", "internal/bytealg.IndexString", "internal/bytealg.abigen_runtime_cmpstring", "slices.overlaps[voyage/api.Field]"], unfollowed := true, recurses := true, named := ["voyage/api.ErrPath", "voyage/api.ErrKind", "unicode/utf8.first", "unicode/utf8.acceptRanges", "voyage/api.ErrTime", "internal/bytealg.MaxLen"], loops := true, apart := false, laid := [("unicode/utf8.acceptRanges", laid_unicode_utf8_acceptRanges), ("voyage/api.ErrPath", laid_voyage_api_ErrPath), ("voyage/api.ErrKind", laid_voyage_api_ErrKind), ("voyage/api.ErrTime", laid_voyage_api_ErrTime), ("unicode/utf8.first", laid_unicode_utf8_first)], narrowed := true }
def RuleHoldsUptoSaid : Prop := ruleHoldsUptoRow.holds Tryz.pinned (OpenSpec.upto ruleHoldsSpec)

/-- 'voyagelaw07.RuleNames', WHERE WHAT IT READS IS OF BULK AT MOST 1048576: true; the input reads as it did. -/
def ruleNamesUptoRow : OpenClaim := { program := "ytflknoaihkhciaagreatdoor", sum := "6dd5ca960edbbfa4956692b2af99dca756e7bda82bcc12bb9a56b0ed7d64c8b6", func := "voyage/voyagelaw07.RuleNames", spec := "ruleNames", inPlace := ["internal/abi.NoEscape", "internal/bytealg.MakeNoZero", "internal/bytealg.IndexByteString", "internal/bytealg.IndexString", "internal/bytealg.abigen_runtime_cmpstring", "slices.overlaps[voyage/api.Field]"], unfollowed := true, recurses := true, named := ["voyage/api.ErrPath", "voyage/api.ErrKind", "unicode/utf8.first", "unicode/utf8.acceptRanges", "voyage/api.ErrTime", "internal/bytealg.MaxLen"], apart := false, laid := [("unicode/utf8.acceptRanges", laid_unicode_utf8_acceptRanges), ("voyage/api.ErrPath", laid_voyage_api_ErrPath), ("voyage/api.ErrKind", laid_voyage_api_ErrKind), ("voyage/api.ErrTime", laid_voyage_api_ErrTime), ("unicode/utf8.first", laid_unicode_utf8_first)], narrowed := true }
def RuleNamesUptoSaid : Prop := ruleNamesUptoRow.holds Tryz.pinned (OpenSpec.upto ruleNamesSpec)

/-- 'voyagelaw10.RetryTakes', WHERE WHAT IT READS IS OF BULK AT MOST 1048576: true; the input reads as it did. -/
def retryTakesUptoRow : OpenClaim := { program := "ytflknoaihkhciaagreatdoor", sum := "6dd5ca960edbbfa4956692b2af99dca756e7bda82bcc12bb9a56b0ed7d64c8b6", func := "voyage/voyagelaw10.RetryTakes", spec := "retryTakes", inPlace := ["internal/abi.NoEscape", "internal/bytealg.MakeNoZero", "internal/bytealg.IndexByteString", "internal/bytealg.IndexString", "internal/bytealg.abigen_runtime_cmpstring"], unfollowed := true, recurses := true, named := ["unicode/utf8.first", "unicode/utf8.acceptRanges", "internal/strconv.uint64pow10", "math/bits.deBruijn32tab", "math/bits.deBruijn64tab", "strconv.ErrSyntax", "strconv.ErrRange", "internal/bytealg.MaxLen"], apart := false, laid := [("math/bits.deBruijn32tab", laid_math_bits_deBruijn32tab), ("math/bits.deBruijn64tab", laid_math_bits_deBruijn64tab), ("internal/strconv.uint64pow10", laid_internal_strconv_uint64pow10), ("unicode/utf8.acceptRanges", laid_unicode_utf8_acceptRanges), ("strconv.ErrRange", laid_strconv_ErrRange), ("strconv.ErrSyntax", laid_strconv_ErrSyntax), ("unicode/utf8.first", laid_unicode_utf8_first)], narrowed := true }
def RetryTakesUptoSaid : Prop := retryTakesUptoRow.holds Tryz.pinned (OpenSpec.upto retryTakesSpec)

/-- 'voyagelaw10.RetryCatches', WHERE WHAT IT READS IS OF BULK AT MOST 1048576: true; the input reads as it did. -/
def retryCatchesUptoRow : OpenClaim := { program := "ytflknoaihkhciaagreatdoor", sum := "6dd5ca960edbbfa4956692b2af99dca756e7bda82bcc12bb9a56b0ed7d64c8b6", func := "voyage/voyagelaw10.RetryCatches", spec := "retryCatches", inPlace := ["internal/abi.NoEscape", "internal/bytealg.MakeNoZero", "internal/bytealg.IndexByteString", "internal/bytealg.IndexString", "internal/bytealg.abigen_runtime_cmpstring"], unfollowed := true, recurses := true, named := ["unicode/utf8.first", "unicode/utf8.acceptRanges", "internal/strconv.uint64pow10", "math/bits.deBruijn32tab", "math/bits.deBruijn64tab", "strconv.ErrSyntax", "strconv.ErrRange", "internal/bytealg.MaxLen"], apart := false, laid := [("math/bits.deBruijn32tab", laid_math_bits_deBruijn32tab), ("math/bits.deBruijn64tab", laid_math_bits_deBruijn64tab), ("internal/strconv.uint64pow10", laid_internal_strconv_uint64pow10), ("unicode/utf8.acceptRanges", laid_unicode_utf8_acceptRanges), ("strconv.ErrRange", laid_strconv_ErrRange), ("strconv.ErrSyntax", laid_strconv_ErrSyntax), ("unicode/utf8.first", laid_unicode_utf8_first)], narrowed := true }
def RetryCatchesUptoSaid : Prop := retryCatchesUptoRow.holds Tryz.pinned (OpenSpec.upto retryCatchesSpec)

/-- 'voyagelaw01.DecWholes', WHERE WHAT IT READS IS OF BULK AT MOST 1048576: true; the input reads as it did. -/
def decWholesUptoRow : OpenClaim := { program := "ytflknoaihkhciaagreatdoor", sum := "6dd5ca960edbbfa4956692b2af99dca756e7bda82bcc12bb9a56b0ed7d64c8b6", func := "voyage/voyagelaw01.DecWholes", spec := "decWholes", inPlace := ["internal/abi.NoEscape", "internal/bytealg.MakeNoZero", "internal/bytealg.IndexByteString", "internal/bytealg.IndexString", "internal/bytealg.abigen_runtime_cmpstring"], unfollowed := true, recurses := true, named := ["voyage/api.ErrNumber", "voyage/api.ErrExponent", "unicode/utf8.first", "unicode/utf8.acceptRanges", "internal/strconv.uint64pow10", "math/bits.deBruijn32tab", "math/bits.deBruijn64tab", "strconv.ErrSyntax", "strconv.ErrRange", "internal/bytealg.MaxLen"], apart := false, laid := [("math/bits.deBruijn32tab", laid_math_bits_deBruijn32tab), ("math/bits.deBruijn64tab", laid_math_bits_deBruijn64tab), ("internal/strconv.uint64pow10", laid_internal_strconv_uint64pow10), ("unicode/utf8.acceptRanges", laid_unicode_utf8_acceptRanges), ("strconv.ErrRange", laid_strconv_ErrRange), ("strconv.ErrSyntax", laid_strconv_ErrSyntax), ("voyage/api.ErrNumber", laid_voyage_api_ErrNumber), ("voyage/api.ErrExponent", laid_voyage_api_ErrExponent), ("unicode/utf8.first", laid_unicode_utf8_first)], narrowed := true }
def DecWholesUptoSaid : Prop := decWholesUptoRow.holds Tryz.pinned (OpenSpec.upto decWholesSpec)

/-- 'voyagelaw10.RetryCharges', WHERE WHAT IT READS IS OF BULK AT MOST 1048576: true; the input reads as it did. -/
def retryChargesUptoRow : OpenClaim := { program := "ytflknoaihkhciaagreatdoor", sum := "6dd5ca960edbbfa4956692b2af99dca756e7bda82bcc12bb9a56b0ed7d64c8b6", func := "voyage/voyagelaw10.RetryCharges", spec := "retryCharges", inPlace := ["internal/abi.NoEscape", "internal/bytealg.MakeNoZero", "internal/bytealg.IndexByteString", "internal/bytealg.IndexString", "internal/bytealg.abigen_runtime_cmpstring"], unfollowed := true, recurses := true, named := ["unicode/utf8.first", "unicode/utf8.acceptRanges", "internal/strconv.uint64pow10", "math/bits.deBruijn32tab", "math/bits.deBruijn64tab", "strconv.ErrSyntax", "strconv.ErrRange", "internal/bytealg.MaxLen"], apart := false, laid := [("math/bits.deBruijn32tab", laid_math_bits_deBruijn32tab), ("math/bits.deBruijn64tab", laid_math_bits_deBruijn64tab), ("internal/strconv.uint64pow10", laid_internal_strconv_uint64pow10), ("unicode/utf8.acceptRanges", laid_unicode_utf8_acceptRanges), ("strconv.ErrRange", laid_strconv_ErrRange), ("strconv.ErrSyntax", laid_strconv_ErrSyntax), ("unicode/utf8.first", laid_unicode_utf8_first)], narrowed := true }
def RetryChargesUptoSaid : Prop := retryChargesUptoRow.holds Tryz.pinned (OpenSpec.upto retryChargesSpec)

/-- 'voyagelaw10.RetryEnds', WHERE WHAT IT READS IS OF BULK AT MOST 1048576: true; the input reads as it did. -/
def retryEndsUptoRow : OpenClaim := { program := "ytflknoaihkhciaagreatdoor", sum := "6dd5ca960edbbfa4956692b2af99dca756e7bda82bcc12bb9a56b0ed7d64c8b6", func := "voyage/voyagelaw10.RetryEnds", spec := "retryEnds", inPlace := ["internal/abi.NoEscape", "internal/bytealg.MakeNoZero", "internal/bytealg.IndexByteString", "internal/bytealg.IndexString", "internal/bytealg.abigen_runtime_cmpstring"], unfollowed := true, recurses := true, named := ["unicode/utf8.first", "unicode/utf8.acceptRanges", "internal/strconv.uint64pow10", "math/bits.deBruijn32tab", "math/bits.deBruijn64tab", "strconv.ErrSyntax", "strconv.ErrRange", "internal/bytealg.MaxLen"], apart := false, laid := [("math/bits.deBruijn32tab", laid_math_bits_deBruijn32tab), ("math/bits.deBruijn64tab", laid_math_bits_deBruijn64tab), ("internal/strconv.uint64pow10", laid_internal_strconv_uint64pow10), ("unicode/utf8.acceptRanges", laid_unicode_utf8_acceptRanges), ("strconv.ErrRange", laid_strconv_ErrRange), ("strconv.ErrSyntax", laid_strconv_ErrSyntax), ("unicode/utf8.first", laid_unicode_utf8_first)], narrowed := true }
def RetryEndsUptoSaid : Prop := retryEndsUptoRow.holds Tryz.pinned (OpenSpec.upto retryEndsSpec)

/-- 'voyagelaw01.DecOrder', WHERE WHAT IT READS IS OF BULK AT MOST 1048576: true; the input reads as it did. -/
def decOrderUptoRow : OpenClaim := { program := "ytflknoaihkhciaagreatdoor", sum := "6dd5ca960edbbfa4956692b2af99dca756e7bda82bcc12bb9a56b0ed7d64c8b6", func := "voyage/voyagelaw01.DecOrder", spec := "decOrder", inPlace := ["internal/abi.NoEscape", "internal/bytealg.MakeNoZero", "internal/bytealg.IndexByteString", "internal/bytealg.IndexString", "internal/bytealg.abigen_runtime_cmpstring"], unfollowed := true, recurses := true, named := ["voyage/api.ErrNumber", "voyage/api.ErrExponent", "unicode/utf8.first", "unicode/utf8.acceptRanges", "strconv.ErrSyntax", "strconv.ErrRange", "internal/strconv.uint64pow10", "math/bits.deBruijn32tab", "math/bits.deBruijn64tab", "internal/bytealg.MaxLen"], apart := false, laid := [("math/bits.deBruijn32tab", laid_math_bits_deBruijn32tab), ("math/bits.deBruijn64tab", laid_math_bits_deBruijn64tab), ("internal/strconv.uint64pow10", laid_internal_strconv_uint64pow10), ("unicode/utf8.acceptRanges", laid_unicode_utf8_acceptRanges), ("strconv.ErrRange", laid_strconv_ErrRange), ("strconv.ErrSyntax", laid_strconv_ErrSyntax), ("voyage/api.ErrNumber", laid_voyage_api_ErrNumber), ("voyage/api.ErrExponent", laid_voyage_api_ErrExponent), ("unicode/utf8.first", laid_unicode_utf8_first)], narrowed := true }
def DecOrderUptoSaid : Prop := decOrderUptoRow.holds Tryz.pinned (OpenSpec.upto decOrderSpec)

/-- 'voyagelaw01.DecDelays', WHERE WHAT IT READS IS OF BULK AT MOST 1048576: true; the input reads as it did. -/
def decDelaysUptoRow : OpenClaim := { program := "ytflknoaihkhciaagreatdoor", sum := "6dd5ca960edbbfa4956692b2af99dca756e7bda82bcc12bb9a56b0ed7d64c8b6", func := "voyage/voyagelaw01.DecDelays", spec := "decDelays", inPlace := ["internal/abi.NoEscape", "internal/bytealg.MakeNoZero", "internal/bytealg.IndexByteString", "internal/bytealg.IndexString", "internal/bytealg.abigen_runtime_cmpstring"], unfollowed := true, recurses := true, named := ["voyage/api.ErrNumber", "voyage/api.ErrExponent", "unicode/utf8.first", "unicode/utf8.acceptRanges", "internal/strconv.uint64pow10", "math/bits.deBruijn32tab", "math/bits.deBruijn64tab", "strconv.ErrSyntax", "strconv.ErrRange", "internal/bytealg.MaxLen"], apart := false, laid := [("math/bits.deBruijn32tab", laid_math_bits_deBruijn32tab), ("math/bits.deBruijn64tab", laid_math_bits_deBruijn64tab), ("internal/strconv.uint64pow10", laid_internal_strconv_uint64pow10), ("unicode/utf8.acceptRanges", laid_unicode_utf8_acceptRanges), ("strconv.ErrRange", laid_strconv_ErrRange), ("strconv.ErrSyntax", laid_strconv_ErrSyntax), ("voyage/api.ErrNumber", laid_voyage_api_ErrNumber), ("voyage/api.ErrExponent", laid_voyage_api_ErrExponent), ("unicode/utf8.first", laid_unicode_utf8_first)], narrowed := true }
def DecDelaysUptoSaid : Prop := decDelaysUptoRow.holds Tryz.pinned (OpenSpec.upto decDelaysSpec)

/-- 'voyagelaw01.DecRises', WHERE WHAT IT READS IS OF BULK AT MOST 1048576: true; the input reads as it did. -/
def decRisesUptoRow : OpenClaim := { program := "ytflknoaihkhciaagreatdoor", sum := "6dd5ca960edbbfa4956692b2af99dca756e7bda82bcc12bb9a56b0ed7d64c8b6", func := "voyage/voyagelaw01.DecRises", spec := "decRises", inPlace := ["internal/abi.NoEscape", "internal/bytealg.MakeNoZero", "internal/bytealg.IndexByteString", "internal/bytealg.IndexString", "internal/bytealg.abigen_runtime_cmpstring"], unfollowed := true, recurses := true, named := ["voyage/api.ErrNumber", "voyage/api.ErrExponent", "unicode/utf8.first", "unicode/utf8.acceptRanges", "internal/strconv.uint64pow10", "math/bits.deBruijn32tab", "math/bits.deBruijn64tab", "strconv.ErrSyntax", "strconv.ErrRange", "internal/bytealg.MaxLen"], apart := false, laid := [("math/bits.deBruijn32tab", laid_math_bits_deBruijn32tab), ("math/bits.deBruijn64tab", laid_math_bits_deBruijn64tab), ("internal/strconv.uint64pow10", laid_internal_strconv_uint64pow10), ("unicode/utf8.acceptRanges", laid_unicode_utf8_acceptRanges), ("strconv.ErrRange", laid_strconv_ErrRange), ("strconv.ErrSyntax", laid_strconv_ErrSyntax), ("voyage/api.ErrNumber", laid_voyage_api_ErrNumber), ("voyage/api.ErrExponent", laid_voyage_api_ErrExponent), ("unicode/utf8.first", laid_unicode_utf8_first)], narrowed := true }
def DecRisesUptoSaid : Prop := decRisesUptoRow.holds Tryz.pinned (OpenSpec.upto decRisesSpec)

end Rows
end Go.Proofs.YtflknoaihkhciaaGreatDoor
