/-
  NARROWER THAN 'FOR EVERY INPUT', by the rows' own cells (each row's printed sentence says how): WalkBase: laid · WalkJoins: laid · WalkChecks: laid · WalkWrong: laid · WalkStops: laid · TraceShares: laid · TraceKinds: laid · TraceReports: laid · TraceCounts: laid · TopicTells: laid · TopicBack: laid · TopicForth: laid · TopicFilters: laid · TopicNames: laid · TopicApart: laid · TopicParts: laid.
  DERIVED. THE GIVEN ROWS OF THIS SEAT. 16 by the template 'for every input the law returns true; each argument reads behind the call as it read before'; 0 by the template 'total and deterministic' (their statements: YtmogappoadglgaaDoorTotals.lean).
  GIVEN WITH THE SEED: the statements are not yours to turn. If you find one false, say at which input.
  Laid BY PROGRAM, IN A SANDBOX (cutbox-rows.mjs): the forced cells as the released guide's own fill.sh prints them over the translation c91942254bb81fd8… (all of the seat's roots in one cut). By AI agents, Wed Nov 11 2026. No macro, syntax, notation, axiom, sorry.
-/
import Derived.Test.YtmogappoadglgaaDoorChecked
import GoSem.PinnedTables
import GoSem.Claim
import GoSem.ClaimJoined
import GoSem.ClaimMapViews
import Derived.JoinedTies
import Derived.KernelRfl
namespace Go.Proofs.YtmogappoadglgaaDoor
/- THE CELL 'sum', in the pinned program and in every row, IS THE sha256 OF THE DUMP (.gsa) THAT YtmogappoadglgaaDoorProg.lean LOADS. Nothing in Lean hashes anything: it is a label: what it is worth is what the hold of that sum in a sandbox is worth. -/
noncomputable def Tryd.pinned : Pinned := { name := "ytmogappoadglgaadoor", sum := "c91942254bb81fd849031fd24d9408c05724208646396d858cd93b786fb544df", checked := Tryd.checked }
namespace Rows
def none {H : Type} : Left H := { results := [], args := [] }

/- WHAT THE LISTED PACKAGE-LEVEL VARIABLES READ AS WHEN THE CALL BEGINS. Each datum BY PROGRAM (the guide's laid-datum.mjs) off the statement by which the dump's own 'gosem.cut.vars' lays the variable. In a bare row this is a premise. The card (YtmogappoadglgaaDoorCards.lean) ties it to the program's text. -/
def laid_unicode_utf8_acceptRanges {H : Type} : DataW H := .agg [.agg [.lit (.int .u8 128), .lit (.int .u8 191)], .agg [.lit (.int .u8 160), .lit (.int .u8 191)], .agg [.lit (.int .u8 128), .lit (.int .u8 159)], .agg [.lit (.int .u8 144), .lit (.int .u8 191)], .agg [.lit (.int .u8 128), .lit (.int .u8 143)], .agg [.lit (.int .u8 0), .lit (.int .u8 0)], .agg [.lit (.int .u8 0), .lit (.int .u8 0)], .agg [.lit (.int .u8 0), .lit (.int .u8 0)], .agg [.lit (.int .u8 0), .lit (.int .u8 0)], .agg [.lit (.int .u8 0), .lit (.int .u8 0)], .agg [.lit (.int .u8 0), .lit (.int .u8 0)], .agg [.lit (.int .u8 0), .lit (.int .u8 0)], .agg [.lit (.int .u8 0), .lit (.int .u8 0)], .agg [.lit (.int .u8 0), .lit (.int .u8 0)], .agg [.lit (.int .u8 0), .lit (.int .u8 0)], .agg [.lit (.int .u8 0), .lit (.int .u8 0)]]
/-- One of Go's own tables, pinned by name: the form's constant. -/
def laid_unicode_utf8_first : DataW Unit := Go.Pinned.utf8First
def laid_math_bits_deBruijn32tab {H : Type} : DataW H := .agg [.lit (.int .u8 0), .lit (.int .u8 1), .lit (.int .u8 28), .lit (.int .u8 2), .lit (.int .u8 29), .lit (.int .u8 14), .lit (.int .u8 24), .lit (.int .u8 3), .lit (.int .u8 30), .lit (.int .u8 22), .lit (.int .u8 20), .lit (.int .u8 15), .lit (.int .u8 25), .lit (.int .u8 17), .lit (.int .u8 4), .lit (.int .u8 8), .lit (.int .u8 31), .lit (.int .u8 27), .lit (.int .u8 13), .lit (.int .u8 23), .lit (.int .u8 21), .lit (.int .u8 19), .lit (.int .u8 16), .lit (.int .u8 7), .lit (.int .u8 26), .lit (.int .u8 12), .lit (.int .u8 18), .lit (.int .u8 6), .lit (.int .u8 11), .lit (.int .u8 5), .lit (.int .u8 10), .lit (.int .u8 9)]
def laid_math_bits_deBruijn64tab {H : Type} : DataW H := .agg [.lit (.int .u8 0), .lit (.int .u8 1), .lit (.int .u8 56), .lit (.int .u8 2), .lit (.int .u8 57), .lit (.int .u8 49), .lit (.int .u8 28), .lit (.int .u8 3), .lit (.int .u8 61), .lit (.int .u8 58), .lit (.int .u8 42), .lit (.int .u8 50), .lit (.int .u8 38), .lit (.int .u8 29), .lit (.int .u8 17), .lit (.int .u8 4), .lit (.int .u8 62), .lit (.int .u8 47), .lit (.int .u8 59), .lit (.int .u8 36), .lit (.int .u8 45), .lit (.int .u8 43), .lit (.int .u8 51), .lit (.int .u8 22), .lit (.int .u8 53), .lit (.int .u8 39), .lit (.int .u8 33), .lit (.int .u8 30), .lit (.int .u8 24), .lit (.int .u8 18), .lit (.int .u8 12), .lit (.int .u8 5), .lit (.int .u8 63), .lit (.int .u8 55), .lit (.int .u8 48), .lit (.int .u8 27), .lit (.int .u8 60), .lit (.int .u8 41), .lit (.int .u8 37), .lit (.int .u8 16), .lit (.int .u8 46), .lit (.int .u8 35), .lit (.int .u8 44), .lit (.int .u8 21), .lit (.int .u8 52), .lit (.int .u8 32), .lit (.int .u8 23), .lit (.int .u8 11), .lit (.int .u8 54), .lit (.int .u8 26), .lit (.int .u8 40), .lit (.int .u8 15), .lit (.int .u8 34), .lit (.int .u8 20), .lit (.int .u8 31), .lit (.int .u8 10), .lit (.int .u8 25), .lit (.int .u8 14), .lit (.int .u8 19), .lit (.int .u8 9), .lit (.int .u8 13), .lit (.int .u8 8), .lit (.int .u8 7), .lit (.int .u8 6)]
def laid_internal_strconv_uint64pow10 {H : Type} : DataW H := .agg [.lit (.int .u64 1), .lit (.int .u64 10), .lit (.int .u64 100), .lit (.int .u64 1000), .lit (.int .u64 10000), .lit (.int .u64 100000), .lit (.int .u64 1000000), .lit (.int .u64 10000000), .lit (.int .u64 100000000), .lit (.int .u64 1000000000), .lit (.int .u64 10000000000), .lit (.int .u64 100000000000), .lit (.int .u64 1000000000000), .lit (.int .u64 10000000000000), .lit (.int .u64 100000000000000), .lit (.int .u64 1000000000000000), .lit (.int .u64 10000000000000000), .lit (.int .u64 100000000000000000), .lit (.int .u64 1000000000000000000), .lit (.int .u64 10000000000000000000)]

/-- 'humpyardlaw13.WalkBase': WHATEVER THE INPUT: true; the input reads as it did. -/
def walkBaseSpec : ChangeSpec := { name := "walkBase", fn := fun _ => fun
  | [d1, d2, d3] => { results := [.lit (.bool true)], args := [d1, d2, d3] }
  | _ => none }
def walkBaseRow : OpenClaim := { program := "ytmogappoadglgaadoor", sum := "c91942254bb81fd849031fd24d9408c05724208646396d858cd93b786fb544df", func := "humpyard/humpyardlaw13.WalkBase", spec := "walkBase", inPlace := ["internal/bytealg.IndexByteString", "internal/bytealg.IndexString"], unfollowed := true, recurses := true, named := ["unicode/utf8.first", "unicode/utf8.acceptRanges", "internal/bytealg.MaxLen"], plainKeys := false, apart := false, laid := [("unicode/utf8.acceptRanges", laid_unicode_utf8_acceptRanges), ("unicode/utf8.first", laid_unicode_utf8_first)] }
def WalkBaseSaid : Prop := walkBaseRow.holds Tryd.pinned (OpenSpec.ofChange walkBaseSpec)

/-- ITS FALSE NEIGHBOUR: 'it returns false'. Refute it at one input. -/
def walkBaseWrong : ChangeSpec := { name := "walkBase", fn := fun _ => fun
  | [d1, d2, d3] => { results := [.lit (.bool false)], args := [d1, d2, d3] }
  | _ => none }
def WalkBaseWrongFalsely : Prop := walkBaseRow.holds Tryd.pinned (OpenSpec.ofChange walkBaseWrong)

/-- 'humpyardlaw13.WalkJoins': WHATEVER THE INPUT: true; the input reads as it did. -/
def walkJoinsSpec : ChangeSpec := { name := "walkJoins", fn := fun _ => fun
  | [d1, d2, d3, d4] => { results := [.lit (.bool true)], args := [d1, d2, d3, d4] }
  | _ => none }
def walkJoinsRow : OpenClaim := { program := "ytmogappoadglgaadoor", sum := "c91942254bb81fd849031fd24d9408c05724208646396d858cd93b786fb544df", func := "humpyard/humpyardlaw13.WalkJoins", spec := "walkJoins", inPlace := ["internal/bytealg.IndexByteString", "internal/bytealg.IndexString"], unfollowed := true, recurses := true, named := ["unicode/utf8.first", "unicode/utf8.acceptRanges", "internal/bytealg.MaxLen"], plainKeys := false, apart := false, laid := [("unicode/utf8.acceptRanges", laid_unicode_utf8_acceptRanges), ("unicode/utf8.first", laid_unicode_utf8_first)] }
def WalkJoinsSaid : Prop := walkJoinsRow.holds Tryd.pinned (OpenSpec.ofChange walkJoinsSpec)

/-- ITS FALSE NEIGHBOUR: 'it returns false'. Refute it at one input. -/
def walkJoinsWrong : ChangeSpec := { name := "walkJoins", fn := fun _ => fun
  | [d1, d2, d3, d4] => { results := [.lit (.bool false)], args := [d1, d2, d3, d4] }
  | _ => none }
def WalkJoinsWrongFalsely : Prop := walkJoinsRow.holds Tryd.pinned (OpenSpec.ofChange walkJoinsWrong)

/-- 'humpyardlaw13.WalkChecks': WHATEVER THE INPUT: true; the input reads as it did. -/
def walkChecksSpec : ChangeSpec := { name := "walkChecks", fn := fun _ => fun
  | [d1, d2, d3, d4] => { results := [.lit (.bool true)], args := [d1, d2, d3, d4] }
  | _ => none }
def walkChecksRow : OpenClaim := { program := "ytmogappoadglgaadoor", sum := "c91942254bb81fd849031fd24d9408c05724208646396d858cd93b786fb544df", func := "humpyard/humpyardlaw13.WalkChecks", spec := "walkChecks", inPlace := ["internal/bytealg.IndexByteString", "internal/bytealg.IndexString"], unfollowed := true, recurses := true, named := ["unicode/utf8.first", "unicode/utf8.acceptRanges", "internal/bytealg.MaxLen"], plainKeys := false, apart := false, laid := [("unicode/utf8.acceptRanges", laid_unicode_utf8_acceptRanges), ("unicode/utf8.first", laid_unicode_utf8_first)] }
def WalkChecksSaid : Prop := walkChecksRow.holds Tryd.pinned (OpenSpec.ofChange walkChecksSpec)

/-- ITS FALSE NEIGHBOUR: 'it returns false'. Refute it at one input. -/
def walkChecksWrong : ChangeSpec := { name := "walkChecks", fn := fun _ => fun
  | [d1, d2, d3, d4] => { results := [.lit (.bool false)], args := [d1, d2, d3, d4] }
  | _ => none }
def WalkChecksWrongFalsely : Prop := walkChecksRow.holds Tryd.pinned (OpenSpec.ofChange walkChecksWrong)

/-- 'humpyardlaw13.WalkWrong': WHATEVER THE INPUT: true; the input reads as it did. -/
def walkWrongSpec : ChangeSpec := { name := "walkWrong", fn := fun _ => fun
  | [d1, d2, d3, d4] => { results := [.lit (.bool true)], args := [d1, d2, d3, d4] }
  | _ => none }
def walkWrongRow : OpenClaim := { program := "ytmogappoadglgaadoor", sum := "c91942254bb81fd849031fd24d9408c05724208646396d858cd93b786fb544df", func := "humpyard/humpyardlaw13.WalkWrong", spec := "walkWrong", inPlace := ["internal/bytealg.IndexByteString", "internal/bytealg.IndexString"], unfollowed := true, recurses := true, named := ["unicode/utf8.first", "unicode/utf8.acceptRanges", "internal/bytealg.MaxLen"], plainKeys := false, apart := false, laid := [("unicode/utf8.acceptRanges", laid_unicode_utf8_acceptRanges), ("unicode/utf8.first", laid_unicode_utf8_first)] }
def WalkWrongSaid : Prop := walkWrongRow.holds Tryd.pinned (OpenSpec.ofChange walkWrongSpec)

/-- ITS FALSE NEIGHBOUR: 'it returns false'. Refute it at one input. -/
def walkWrongWrong : ChangeSpec := { name := "walkWrong", fn := fun _ => fun
  | [d1, d2, d3, d4] => { results := [.lit (.bool false)], args := [d1, d2, d3, d4] }
  | _ => none }
def WalkWrongWrongFalsely : Prop := walkWrongRow.holds Tryd.pinned (OpenSpec.ofChange walkWrongWrong)

/-- 'humpyardlaw13.WalkStops': WHATEVER THE INPUT: true; the input reads as it did. -/
def walkStopsSpec : ChangeSpec := { name := "walkStops", fn := fun _ => fun
  | [d1, d2, d3, d4] => { results := [.lit (.bool true)], args := [d1, d2, d3, d4] }
  | _ => none }
def walkStopsRow : OpenClaim := { program := "ytmogappoadglgaadoor", sum := "c91942254bb81fd849031fd24d9408c05724208646396d858cd93b786fb544df", func := "humpyard/humpyardlaw13.WalkStops", spec := "walkStops", inPlace := ["internal/bytealg.IndexByteString", "internal/bytealg.IndexString"], unfollowed := true, recurses := true, named := ["unicode/utf8.first", "unicode/utf8.acceptRanges", "internal/bytealg.MaxLen"], plainKeys := false, apart := false, laid := [("unicode/utf8.acceptRanges", laid_unicode_utf8_acceptRanges), ("unicode/utf8.first", laid_unicode_utf8_first)] }
def WalkStopsSaid : Prop := walkStopsRow.holds Tryd.pinned (OpenSpec.ofChange walkStopsSpec)

/-- ITS FALSE NEIGHBOUR: 'it returns false'. Refute it at one input. -/
def walkStopsWrong : ChangeSpec := { name := "walkStops", fn := fun _ => fun
  | [d1, d2, d3, d4] => { results := [.lit (.bool false)], args := [d1, d2, d3, d4] }
  | _ => none }
def WalkStopsWrongFalsely : Prop := walkStopsRow.holds Tryd.pinned (OpenSpec.ofChange walkStopsWrong)

/-- 'humpyardlaw21.TraceShares': WHATEVER THE INPUT: true; the input reads as it did. -/
def traceSharesSpec : ChangeSpec := { name := "traceShares", fn := fun _ => fun
  | [d] => { results := [.lit (.bool true)], args := [d] }
  | _ => none }
def traceSharesRow : OpenClaim := { program := "ytmogappoadglgaadoor", sum := "c91942254bb81fd849031fd24d9408c05724208646396d858cd93b786fb544df", func := "humpyard/humpyardlaw21.TraceShares", spec := "traceShares", inPlace := ["internal/abi.NoEscape", "internal/bytealg.MakeNoZero"], unfollowed := true, recurses := true, named := ["internal/strconv.uint64pow10", "math/bits.deBruijn32tab", "math/bits.deBruijn64tab"], plainKeys := false, apart := false, laid := [("math/bits.deBruijn32tab", laid_math_bits_deBruijn32tab), ("math/bits.deBruijn64tab", laid_math_bits_deBruijn64tab), ("internal/strconv.uint64pow10", laid_internal_strconv_uint64pow10)] }
def TraceSharesSaid : Prop := traceSharesRow.holds Tryd.pinned (OpenSpec.ofChange traceSharesSpec)

/-- ITS FALSE NEIGHBOUR: 'it returns false'. Refute it at one input. -/
def traceSharesWrong : ChangeSpec := { name := "traceShares", fn := fun _ => fun
  | [d] => { results := [.lit (.bool false)], args := [d] }
  | _ => none }
def TraceSharesWrongFalsely : Prop := traceSharesRow.holds Tryd.pinned (OpenSpec.ofChange traceSharesWrong)

/-- 'humpyardlaw21.TraceKinds': WHATEVER THE INPUT: true; the input reads as it did. -/
def traceKindsSpec : ChangeSpec := { name := "traceKinds", fn := fun _ => fun
  | [d1, d2] => { results := [.lit (.bool true)], args := [d1, d2] }
  | _ => none }
def traceKindsRow : OpenClaim := { program := "ytmogappoadglgaadoor", sum := "c91942254bb81fd849031fd24d9408c05724208646396d858cd93b786fb544df", func := "humpyard/humpyardlaw21.TraceKinds", spec := "traceKinds", inPlace := ["internal/abi.NoEscape", "internal/bytealg.MakeNoZero"], unfollowed := true, recurses := true, named := ["internal/strconv.uint64pow10", "math/bits.deBruijn32tab", "math/bits.deBruijn64tab"], plainKeys := false, apart := false, laid := [("math/bits.deBruijn32tab", laid_math_bits_deBruijn32tab), ("math/bits.deBruijn64tab", laid_math_bits_deBruijn64tab), ("internal/strconv.uint64pow10", laid_internal_strconv_uint64pow10)] }
def TraceKindsSaid : Prop := traceKindsRow.holds Tryd.pinned (OpenSpec.ofChange traceKindsSpec)

/-- ITS FALSE NEIGHBOUR: 'it returns false'. Refute it at one input. -/
def traceKindsWrong : ChangeSpec := { name := "traceKinds", fn := fun _ => fun
  | [d1, d2] => { results := [.lit (.bool false)], args := [d1, d2] }
  | _ => none }
def TraceKindsWrongFalsely : Prop := traceKindsRow.holds Tryd.pinned (OpenSpec.ofChange traceKindsWrong)

/-- 'humpyardlaw21.TraceReports': WHATEVER THE INPUT: true; the input reads as it did. -/
def traceReportsSpec : ChangeSpec := { name := "traceReports", fn := fun _ => fun
  | [d1, d2] => { results := [.lit (.bool true)], args := [d1, d2] }
  | _ => none }
def traceReportsRow : OpenClaim := { program := "ytmogappoadglgaadoor", sum := "c91942254bb81fd849031fd24d9408c05724208646396d858cd93b786fb544df", func := "humpyard/humpyardlaw21.TraceReports", spec := "traceReports", inPlace := ["internal/abi.NoEscape", "internal/bytealg.MakeNoZero"], unfollowed := true, recurses := true, named := ["internal/strconv.uint64pow10", "math/bits.deBruijn32tab", "math/bits.deBruijn64tab"], plainKeys := false, apart := false, laid := [("math/bits.deBruijn32tab", laid_math_bits_deBruijn32tab), ("math/bits.deBruijn64tab", laid_math_bits_deBruijn64tab), ("internal/strconv.uint64pow10", laid_internal_strconv_uint64pow10)] }
def TraceReportsSaid : Prop := traceReportsRow.holds Tryd.pinned (OpenSpec.ofChange traceReportsSpec)

/-- ITS FALSE NEIGHBOUR: 'it returns false'. Refute it at one input. -/
def traceReportsWrong : ChangeSpec := { name := "traceReports", fn := fun _ => fun
  | [d1, d2] => { results := [.lit (.bool false)], args := [d1, d2] }
  | _ => none }
def TraceReportsWrongFalsely : Prop := traceReportsRow.holds Tryd.pinned (OpenSpec.ofChange traceReportsWrong)

/-- 'humpyardlaw21.TraceCounts': WHATEVER THE INPUT: true; the input reads as it did. -/
def traceCountsSpec : ChangeSpec := { name := "traceCounts", fn := fun _ => fun
  | [d1, d2] => { results := [.lit (.bool true)], args := [d1, d2] }
  | _ => none }
def traceCountsRow : OpenClaim := { program := "ytmogappoadglgaadoor", sum := "c91942254bb81fd849031fd24d9408c05724208646396d858cd93b786fb544df", func := "humpyard/humpyardlaw21.TraceCounts", spec := "traceCounts", inPlace := ["internal/abi.NoEscape", "internal/bytealg.MakeNoZero"], unfollowed := true, recurses := true, named := ["internal/strconv.uint64pow10", "math/bits.deBruijn32tab", "math/bits.deBruijn64tab"], plainKeys := false, apart := false, laid := [("math/bits.deBruijn32tab", laid_math_bits_deBruijn32tab), ("math/bits.deBruijn64tab", laid_math_bits_deBruijn64tab), ("internal/strconv.uint64pow10", laid_internal_strconv_uint64pow10)] }
def TraceCountsSaid : Prop := traceCountsRow.holds Tryd.pinned (OpenSpec.ofChange traceCountsSpec)

/-- ITS FALSE NEIGHBOUR: 'it returns false'. Refute it at one input. -/
def traceCountsWrong : ChangeSpec := { name := "traceCounts", fn := fun _ => fun
  | [d1, d2] => { results := [.lit (.bool false)], args := [d1, d2] }
  | _ => none }
def TraceCountsWrongFalsely : Prop := traceCountsRow.holds Tryd.pinned (OpenSpec.ofChange traceCountsWrong)

/-- 'humpyardlaw07.TopicTells': WHATEVER THE INPUT: true; the input reads as it did. -/
def topicTellsSpec : ChangeSpec := { name := "topicTells", fn := fun _ => fun
  | [d1, d2, d3, d4, d5, d6, d7] => { results := [.lit (.bool true)], args := [d1, d2, d3, d4, d5, d6, d7] }
  | _ => none }
def topicTellsRow : OpenClaim := { program := "ytmogappoadglgaadoor", sum := "c91942254bb81fd849031fd24d9408c05724208646396d858cd93b786fb544df", func := "humpyard/humpyardlaw07.TopicTells", spec := "topicTells", inPlace := ["internal/bytealg.IndexByteString", "internal/bytealg.IndexString", "internal/abi.NoEscape", "internal/bytealg.MakeNoZero", "internal/bytealg.CountString"], unfollowed := true, recurses := true, named := ["unicode/utf8.first", "unicode/utf8.acceptRanges", "internal/bytealg.MaxLen"], plainKeys := false, apart := false, laid := [("unicode/utf8.acceptRanges", laid_unicode_utf8_acceptRanges), ("unicode/utf8.first", laid_unicode_utf8_first)] }
def TopicTellsSaid : Prop := topicTellsRow.holds Tryd.pinned (OpenSpec.ofChange topicTellsSpec)

/-- ITS FALSE NEIGHBOUR: 'it returns false'. Refute it at one input. -/
def topicTellsWrong : ChangeSpec := { name := "topicTells", fn := fun _ => fun
  | [d1, d2, d3, d4, d5, d6, d7] => { results := [.lit (.bool false)], args := [d1, d2, d3, d4, d5, d6, d7] }
  | _ => none }
def TopicTellsWrongFalsely : Prop := topicTellsRow.holds Tryd.pinned (OpenSpec.ofChange topicTellsWrong)

/-- 'humpyardlaw07.TopicBack': WHATEVER THE INPUT: true; the input reads as it did. -/
def topicBackSpec : ChangeSpec := { name := "topicBack", fn := fun _ => fun
  | [d1, d2, d3, d4] => { results := [.lit (.bool true)], args := [d1, d2, d3, d4] }
  | _ => none }
def topicBackRow : OpenClaim := { program := "ytmogappoadglgaadoor", sum := "c91942254bb81fd849031fd24d9408c05724208646396d858cd93b786fb544df", func := "humpyard/humpyardlaw07.TopicBack", spec := "topicBack", inPlace := ["internal/bytealg.IndexByteString", "internal/bytealg.IndexString", "internal/abi.NoEscape", "internal/bytealg.MakeNoZero", "internal/bytealg.CountString"], unfollowed := true, recurses := true, named := ["unicode/utf8.first", "unicode/utf8.acceptRanges", "internal/bytealg.MaxLen"], plainKeys := false, apart := false, laid := [("unicode/utf8.acceptRanges", laid_unicode_utf8_acceptRanges), ("unicode/utf8.first", laid_unicode_utf8_first)] }
def TopicBackSaid : Prop := topicBackRow.holds Tryd.pinned (OpenSpec.ofChange topicBackSpec)

/-- ITS FALSE NEIGHBOUR: 'it returns false'. Refute it at one input. -/
def topicBackWrong : ChangeSpec := { name := "topicBack", fn := fun _ => fun
  | [d1, d2, d3, d4] => { results := [.lit (.bool false)], args := [d1, d2, d3, d4] }
  | _ => none }
def TopicBackWrongFalsely : Prop := topicBackRow.holds Tryd.pinned (OpenSpec.ofChange topicBackWrong)

/-- 'humpyardlaw07.TopicForth': WHATEVER THE INPUT: true; the input reads as it did. -/
def topicForthSpec : ChangeSpec := { name := "topicForth", fn := fun _ => fun
  | [d1, d2, d3, d4, d5] => { results := [.lit (.bool true)], args := [d1, d2, d3, d4, d5] }
  | _ => none }
def topicForthRow : OpenClaim := { program := "ytmogappoadglgaadoor", sum := "c91942254bb81fd849031fd24d9408c05724208646396d858cd93b786fb544df", func := "humpyard/humpyardlaw07.TopicForth", spec := "topicForth", inPlace := ["internal/bytealg.IndexByteString", "internal/bytealg.IndexString", "internal/abi.NoEscape", "internal/bytealg.MakeNoZero", "internal/bytealg.CountString"], unfollowed := true, recurses := true, named := ["unicode/utf8.first", "unicode/utf8.acceptRanges", "internal/bytealg.MaxLen"], plainKeys := false, apart := false, laid := [("unicode/utf8.acceptRanges", laid_unicode_utf8_acceptRanges), ("unicode/utf8.first", laid_unicode_utf8_first)] }
def TopicForthSaid : Prop := topicForthRow.holds Tryd.pinned (OpenSpec.ofChange topicForthSpec)

/-- ITS FALSE NEIGHBOUR: 'it returns false'. Refute it at one input. -/
def topicForthWrong : ChangeSpec := { name := "topicForth", fn := fun _ => fun
  | [d1, d2, d3, d4, d5] => { results := [.lit (.bool false)], args := [d1, d2, d3, d4, d5] }
  | _ => none }
def TopicForthWrongFalsely : Prop := topicForthRow.holds Tryd.pinned (OpenSpec.ofChange topicForthWrong)

/-- 'humpyardlaw07.TopicFilters': WHATEVER THE INPUT: true; the input reads as it did. -/
def topicFiltersSpec : ChangeSpec := { name := "topicFilters", fn := fun _ => fun
  | [d1, d2, d3, d4, d5] => { results := [.lit (.bool true)], args := [d1, d2, d3, d4, d5] }
  | _ => none }
def topicFiltersRow : OpenClaim := { program := "ytmogappoadglgaadoor", sum := "c91942254bb81fd849031fd24d9408c05724208646396d858cd93b786fb544df", func := "humpyard/humpyardlaw07.TopicFilters", spec := "topicFilters", inPlace := ["internal/bytealg.IndexByteString", "internal/bytealg.IndexString", "internal/abi.NoEscape", "internal/bytealg.MakeNoZero", "internal/bytealg.CountString"], unfollowed := true, recurses := true, named := ["unicode/utf8.first", "unicode/utf8.acceptRanges", "internal/bytealg.MaxLen"], plainKeys := false, apart := false, laid := [("unicode/utf8.acceptRanges", laid_unicode_utf8_acceptRanges), ("unicode/utf8.first", laid_unicode_utf8_first)] }
def TopicFiltersSaid : Prop := topicFiltersRow.holds Tryd.pinned (OpenSpec.ofChange topicFiltersSpec)

/-- ITS FALSE NEIGHBOUR: 'it returns false'. Refute it at one input. -/
def topicFiltersWrong : ChangeSpec := { name := "topicFilters", fn := fun _ => fun
  | [d1, d2, d3, d4, d5] => { results := [.lit (.bool false)], args := [d1, d2, d3, d4, d5] }
  | _ => none }
def TopicFiltersWrongFalsely : Prop := topicFiltersRow.holds Tryd.pinned (OpenSpec.ofChange topicFiltersWrong)

/-- 'humpyardlaw07.TopicNames': WHATEVER THE INPUT: true; the input reads as it did. -/
def topicNamesSpec : ChangeSpec := { name := "topicNames", fn := fun _ => fun
  | [d1, d2, d3] => { results := [.lit (.bool true)], args := [d1, d2, d3] }
  | _ => none }
def topicNamesRow : OpenClaim := { program := "ytmogappoadglgaadoor", sum := "c91942254bb81fd849031fd24d9408c05724208646396d858cd93b786fb544df", func := "humpyard/humpyardlaw07.TopicNames", spec := "topicNames", inPlace := ["internal/bytealg.IndexByteString", "internal/bytealg.IndexString", "internal/abi.NoEscape", "internal/bytealg.MakeNoZero", "internal/bytealg.CountString"], unfollowed := true, recurses := true, named := ["unicode/utf8.first", "unicode/utf8.acceptRanges", "internal/bytealg.MaxLen"], plainKeys := false, apart := false, laid := [("unicode/utf8.acceptRanges", laid_unicode_utf8_acceptRanges), ("unicode/utf8.first", laid_unicode_utf8_first)] }
def TopicNamesSaid : Prop := topicNamesRow.holds Tryd.pinned (OpenSpec.ofChange topicNamesSpec)

/-- ITS FALSE NEIGHBOUR: 'it returns false'. Refute it at one input. -/
def topicNamesWrong : ChangeSpec := { name := "topicNames", fn := fun _ => fun
  | [d1, d2, d3] => { results := [.lit (.bool false)], args := [d1, d2, d3] }
  | _ => none }
def TopicNamesWrongFalsely : Prop := topicNamesRow.holds Tryd.pinned (OpenSpec.ofChange topicNamesWrong)

/-- 'humpyardlaw07.TopicApart': WHATEVER THE INPUT: true; the input reads as it did. -/
def topicApartSpec : ChangeSpec := { name := "topicApart", fn := fun _ => fun
  | [d1, d2, d3, d4] => { results := [.lit (.bool true)], args := [d1, d2, d3, d4] }
  | _ => none }
def topicApartRow : OpenClaim := { program := "ytmogappoadglgaadoor", sum := "c91942254bb81fd849031fd24d9408c05724208646396d858cd93b786fb544df", func := "humpyard/humpyardlaw07.TopicApart", spec := "topicApart", inPlace := ["internal/bytealg.IndexByteString", "internal/bytealg.IndexString", "internal/abi.NoEscape", "internal/bytealg.MakeNoZero", "internal/bytealg.CountString"], unfollowed := true, recurses := true, named := ["unicode/utf8.first", "unicode/utf8.acceptRanges", "internal/bytealg.MaxLen"], plainKeys := false, apart := false, laid := [("unicode/utf8.acceptRanges", laid_unicode_utf8_acceptRanges), ("unicode/utf8.first", laid_unicode_utf8_first)] }
def TopicApartSaid : Prop := topicApartRow.holds Tryd.pinned (OpenSpec.ofChange topicApartSpec)

/-- ITS FALSE NEIGHBOUR: 'it returns false'. Refute it at one input. -/
def topicApartWrong : ChangeSpec := { name := "topicApart", fn := fun _ => fun
  | [d1, d2, d3, d4] => { results := [.lit (.bool false)], args := [d1, d2, d3, d4] }
  | _ => none }
def TopicApartWrongFalsely : Prop := topicApartRow.holds Tryd.pinned (OpenSpec.ofChange topicApartWrong)

/-- 'humpyardlaw07.TopicParts': WHATEVER THE INPUT: true; the input reads as it did. -/
def topicPartsSpec : ChangeSpec := { name := "topicParts", fn := fun _ => fun
  | [d1, d2, d3, d4] => { results := [.lit (.bool true)], args := [d1, d2, d3, d4] }
  | _ => none }
def topicPartsRow : OpenClaim := { program := "ytmogappoadglgaadoor", sum := "c91942254bb81fd849031fd24d9408c05724208646396d858cd93b786fb544df", func := "humpyard/humpyardlaw07.TopicParts", spec := "topicParts", inPlace := ["internal/bytealg.IndexByteString", "internal/bytealg.IndexString", "internal/abi.NoEscape", "internal/bytealg.MakeNoZero", "internal/bytealg.CountString"], unfollowed := true, recurses := true, named := ["unicode/utf8.first", "unicode/utf8.acceptRanges", "internal/bytealg.MaxLen"], plainKeys := false, apart := false, laid := [("unicode/utf8.acceptRanges", laid_unicode_utf8_acceptRanges), ("unicode/utf8.first", laid_unicode_utf8_first)] }
def TopicPartsSaid : Prop := topicPartsRow.holds Tryd.pinned (OpenSpec.ofChange topicPartsSpec)

/-- ITS FALSE NEIGHBOUR: 'it returns false'. Refute it at one input. -/
def topicPartsWrong : ChangeSpec := { name := "topicParts", fn := fun _ => fun
  | [d1, d2, d3, d4] => { results := [.lit (.bool false)], args := [d1, d2, d3, d4] }
  | _ => none }
def TopicPartsWrongFalsely : Prop := topicPartsRow.holds Tryd.pinned (OpenSpec.ofChange topicPartsWrong)

/- THE SECOND FORM. 'bulk': how many values and letters a reading holds, each counted each time it is reached (what is shared counts as often as it is met; a slice's spare places count too). A statement '..UptoSaid' is the law's where the arguments, and the package variables that the reading takes, are together of bulk at most 1048576: NARROWER than '..Said'. Prove '..Said' where nothing that the law and all that it calls make is longer than what came in: it says more and counts as full. Else prove '..UptoSaid'. A law counts once. -/
mutual
def uptoBulk {H : Type} : DataW H → Nat
  | .lit (.string bytes) => bytes.length + 1
  | .lit _ => 1
  | .nil => 1
  | .ptr d => uptoBulk d + 1
  | .slice elems spare => uptoBulkAll elems + uptoBulkAll spare + 1
  | .agg parts => uptoBulkAll parts + 1
  | .iface _ d => uptoBulk d + 1
  | .map entries => uptoBulkEntries entries + 1
  | .held _ => 1
def uptoBulkAll {H : Type} : List (DataW H) → Nat
  | [] => 0
  | d :: r => uptoBulk d + uptoBulkAll r
def uptoBulkEntries {H : Type} : List (Lit × DataW H) → Nat
  | [] => 0
  | x :: r => uptoBulkEntry x + uptoBulkEntries r
def uptoBulkEntry {H : Type} : Lit × DataW H → Nat
  | (.string bytes, d) => bytes.length + uptoBulk d + 1
  | (_, d) => uptoBulk d + 1
 end
def uptoSmall : (H : Type) → List (DataW H) → Bool := fun _ ds => decide (uptoBulkAll ds ≤ 1048576)
def OpenSpec.upto (s : _root_.Go.ChangeSpec) : _root_.Go.OpenSpec := { _root_.Go.OpenSpec.ofChange s with cond := some uptoSmall }

/-- 'humpyardlaw13.WalkBase', WHERE WHAT IT READS IS OF BULK AT MOST 1048576: true; the input reads as it did. -/
def walkBaseUptoRow : OpenClaim := { program := "ytmogappoadglgaadoor", sum := "c91942254bb81fd849031fd24d9408c05724208646396d858cd93b786fb544df", func := "humpyard/humpyardlaw13.WalkBase", spec := "walkBase", inPlace := ["internal/bytealg.IndexByteString", "internal/bytealg.IndexString"], unfollowed := true, recurses := true, named := ["unicode/utf8.first", "unicode/utf8.acceptRanges", "internal/bytealg.MaxLen"], plainKeys := false, apart := false, laid := [("unicode/utf8.acceptRanges", laid_unicode_utf8_acceptRanges), ("unicode/utf8.first", laid_unicode_utf8_first)], narrowed := true }
def WalkBaseUptoSaid : Prop := walkBaseUptoRow.holds Tryd.pinned (OpenSpec.upto walkBaseSpec)

/-- 'humpyardlaw13.WalkJoins', WHERE WHAT IT READS IS OF BULK AT MOST 1048576: true; the input reads as it did. -/
def walkJoinsUptoRow : OpenClaim := { program := "ytmogappoadglgaadoor", sum := "c91942254bb81fd849031fd24d9408c05724208646396d858cd93b786fb544df", func := "humpyard/humpyardlaw13.WalkJoins", spec := "walkJoins", inPlace := ["internal/bytealg.IndexByteString", "internal/bytealg.IndexString"], unfollowed := true, recurses := true, named := ["unicode/utf8.first", "unicode/utf8.acceptRanges", "internal/bytealg.MaxLen"], plainKeys := false, apart := false, laid := [("unicode/utf8.acceptRanges", laid_unicode_utf8_acceptRanges), ("unicode/utf8.first", laid_unicode_utf8_first)], narrowed := true }
def WalkJoinsUptoSaid : Prop := walkJoinsUptoRow.holds Tryd.pinned (OpenSpec.upto walkJoinsSpec)

/-- 'humpyardlaw13.WalkChecks', WHERE WHAT IT READS IS OF BULK AT MOST 1048576: true; the input reads as it did. -/
def walkChecksUptoRow : OpenClaim := { program := "ytmogappoadglgaadoor", sum := "c91942254bb81fd849031fd24d9408c05724208646396d858cd93b786fb544df", func := "humpyard/humpyardlaw13.WalkChecks", spec := "walkChecks", inPlace := ["internal/bytealg.IndexByteString", "internal/bytealg.IndexString"], unfollowed := true, recurses := true, named := ["unicode/utf8.first", "unicode/utf8.acceptRanges", "internal/bytealg.MaxLen"], plainKeys := false, apart := false, laid := [("unicode/utf8.acceptRanges", laid_unicode_utf8_acceptRanges), ("unicode/utf8.first", laid_unicode_utf8_first)], narrowed := true }
def WalkChecksUptoSaid : Prop := walkChecksUptoRow.holds Tryd.pinned (OpenSpec.upto walkChecksSpec)

/-- 'humpyardlaw13.WalkWrong', WHERE WHAT IT READS IS OF BULK AT MOST 1048576: true; the input reads as it did. -/
def walkWrongUptoRow : OpenClaim := { program := "ytmogappoadglgaadoor", sum := "c91942254bb81fd849031fd24d9408c05724208646396d858cd93b786fb544df", func := "humpyard/humpyardlaw13.WalkWrong", spec := "walkWrong", inPlace := ["internal/bytealg.IndexByteString", "internal/bytealg.IndexString"], unfollowed := true, recurses := true, named := ["unicode/utf8.first", "unicode/utf8.acceptRanges", "internal/bytealg.MaxLen"], plainKeys := false, apart := false, laid := [("unicode/utf8.acceptRanges", laid_unicode_utf8_acceptRanges), ("unicode/utf8.first", laid_unicode_utf8_first)], narrowed := true }
def WalkWrongUptoSaid : Prop := walkWrongUptoRow.holds Tryd.pinned (OpenSpec.upto walkWrongSpec)

/-- 'humpyardlaw13.WalkStops', WHERE WHAT IT READS IS OF BULK AT MOST 1048576: true; the input reads as it did. -/
def walkStopsUptoRow : OpenClaim := { program := "ytmogappoadglgaadoor", sum := "c91942254bb81fd849031fd24d9408c05724208646396d858cd93b786fb544df", func := "humpyard/humpyardlaw13.WalkStops", spec := "walkStops", inPlace := ["internal/bytealg.IndexByteString", "internal/bytealg.IndexString"], unfollowed := true, recurses := true, named := ["unicode/utf8.first", "unicode/utf8.acceptRanges", "internal/bytealg.MaxLen"], plainKeys := false, apart := false, laid := [("unicode/utf8.acceptRanges", laid_unicode_utf8_acceptRanges), ("unicode/utf8.first", laid_unicode_utf8_first)], narrowed := true }
def WalkStopsUptoSaid : Prop := walkStopsUptoRow.holds Tryd.pinned (OpenSpec.upto walkStopsSpec)

/-- 'humpyardlaw21.TraceShares', WHERE WHAT IT READS IS OF BULK AT MOST 1048576: true; the input reads as it did. -/
def traceSharesUptoRow : OpenClaim := { program := "ytmogappoadglgaadoor", sum := "c91942254bb81fd849031fd24d9408c05724208646396d858cd93b786fb544df", func := "humpyard/humpyardlaw21.TraceShares", spec := "traceShares", inPlace := ["internal/abi.NoEscape", "internal/bytealg.MakeNoZero"], unfollowed := true, recurses := true, named := ["internal/strconv.uint64pow10", "math/bits.deBruijn32tab", "math/bits.deBruijn64tab"], plainKeys := false, apart := false, laid := [("math/bits.deBruijn32tab", laid_math_bits_deBruijn32tab), ("math/bits.deBruijn64tab", laid_math_bits_deBruijn64tab), ("internal/strconv.uint64pow10", laid_internal_strconv_uint64pow10)], narrowed := true }
def TraceSharesUptoSaid : Prop := traceSharesUptoRow.holds Tryd.pinned (OpenSpec.upto traceSharesSpec)

/-- 'humpyardlaw21.TraceKinds', WHERE WHAT IT READS IS OF BULK AT MOST 1048576: true; the input reads as it did. -/
def traceKindsUptoRow : OpenClaim := { program := "ytmogappoadglgaadoor", sum := "c91942254bb81fd849031fd24d9408c05724208646396d858cd93b786fb544df", func := "humpyard/humpyardlaw21.TraceKinds", spec := "traceKinds", inPlace := ["internal/abi.NoEscape", "internal/bytealg.MakeNoZero"], unfollowed := true, recurses := true, named := ["internal/strconv.uint64pow10", "math/bits.deBruijn32tab", "math/bits.deBruijn64tab"], plainKeys := false, apart := false, laid := [("math/bits.deBruijn32tab", laid_math_bits_deBruijn32tab), ("math/bits.deBruijn64tab", laid_math_bits_deBruijn64tab), ("internal/strconv.uint64pow10", laid_internal_strconv_uint64pow10)], narrowed := true }
def TraceKindsUptoSaid : Prop := traceKindsUptoRow.holds Tryd.pinned (OpenSpec.upto traceKindsSpec)

/-- 'humpyardlaw21.TraceReports', WHERE WHAT IT READS IS OF BULK AT MOST 1048576: true; the input reads as it did. -/
def traceReportsUptoRow : OpenClaim := { program := "ytmogappoadglgaadoor", sum := "c91942254bb81fd849031fd24d9408c05724208646396d858cd93b786fb544df", func := "humpyard/humpyardlaw21.TraceReports", spec := "traceReports", inPlace := ["internal/abi.NoEscape", "internal/bytealg.MakeNoZero"], unfollowed := true, recurses := true, named := ["internal/strconv.uint64pow10", "math/bits.deBruijn32tab", "math/bits.deBruijn64tab"], plainKeys := false, apart := false, laid := [("math/bits.deBruijn32tab", laid_math_bits_deBruijn32tab), ("math/bits.deBruijn64tab", laid_math_bits_deBruijn64tab), ("internal/strconv.uint64pow10", laid_internal_strconv_uint64pow10)], narrowed := true }
def TraceReportsUptoSaid : Prop := traceReportsUptoRow.holds Tryd.pinned (OpenSpec.upto traceReportsSpec)

/-- 'humpyardlaw21.TraceCounts', WHERE WHAT IT READS IS OF BULK AT MOST 1048576: true; the input reads as it did. -/
def traceCountsUptoRow : OpenClaim := { program := "ytmogappoadglgaadoor", sum := "c91942254bb81fd849031fd24d9408c05724208646396d858cd93b786fb544df", func := "humpyard/humpyardlaw21.TraceCounts", spec := "traceCounts", inPlace := ["internal/abi.NoEscape", "internal/bytealg.MakeNoZero"], unfollowed := true, recurses := true, named := ["internal/strconv.uint64pow10", "math/bits.deBruijn32tab", "math/bits.deBruijn64tab"], plainKeys := false, apart := false, laid := [("math/bits.deBruijn32tab", laid_math_bits_deBruijn32tab), ("math/bits.deBruijn64tab", laid_math_bits_deBruijn64tab), ("internal/strconv.uint64pow10", laid_internal_strconv_uint64pow10)], narrowed := true }
def TraceCountsUptoSaid : Prop := traceCountsUptoRow.holds Tryd.pinned (OpenSpec.upto traceCountsSpec)

/-- 'humpyardlaw07.TopicTells', WHERE WHAT IT READS IS OF BULK AT MOST 1048576: true; the input reads as it did. -/
def topicTellsUptoRow : OpenClaim := { program := "ytmogappoadglgaadoor", sum := "c91942254bb81fd849031fd24d9408c05724208646396d858cd93b786fb544df", func := "humpyard/humpyardlaw07.TopicTells", spec := "topicTells", inPlace := ["internal/bytealg.IndexByteString", "internal/bytealg.IndexString", "internal/abi.NoEscape", "internal/bytealg.MakeNoZero", "internal/bytealg.CountString"], unfollowed := true, recurses := true, named := ["unicode/utf8.first", "unicode/utf8.acceptRanges", "internal/bytealg.MaxLen"], plainKeys := false, apart := false, laid := [("unicode/utf8.acceptRanges", laid_unicode_utf8_acceptRanges), ("unicode/utf8.first", laid_unicode_utf8_first)], narrowed := true }
def TopicTellsUptoSaid : Prop := topicTellsUptoRow.holds Tryd.pinned (OpenSpec.upto topicTellsSpec)

/-- 'humpyardlaw07.TopicBack', WHERE WHAT IT READS IS OF BULK AT MOST 1048576: true; the input reads as it did. -/
def topicBackUptoRow : OpenClaim := { program := "ytmogappoadglgaadoor", sum := "c91942254bb81fd849031fd24d9408c05724208646396d858cd93b786fb544df", func := "humpyard/humpyardlaw07.TopicBack", spec := "topicBack", inPlace := ["internal/bytealg.IndexByteString", "internal/bytealg.IndexString", "internal/abi.NoEscape", "internal/bytealg.MakeNoZero", "internal/bytealg.CountString"], unfollowed := true, recurses := true, named := ["unicode/utf8.first", "unicode/utf8.acceptRanges", "internal/bytealg.MaxLen"], plainKeys := false, apart := false, laid := [("unicode/utf8.acceptRanges", laid_unicode_utf8_acceptRanges), ("unicode/utf8.first", laid_unicode_utf8_first)], narrowed := true }
def TopicBackUptoSaid : Prop := topicBackUptoRow.holds Tryd.pinned (OpenSpec.upto topicBackSpec)

/-- 'humpyardlaw07.TopicForth', WHERE WHAT IT READS IS OF BULK AT MOST 1048576: true; the input reads as it did. -/
def topicForthUptoRow : OpenClaim := { program := "ytmogappoadglgaadoor", sum := "c91942254bb81fd849031fd24d9408c05724208646396d858cd93b786fb544df", func := "humpyard/humpyardlaw07.TopicForth", spec := "topicForth", inPlace := ["internal/bytealg.IndexByteString", "internal/bytealg.IndexString", "internal/abi.NoEscape", "internal/bytealg.MakeNoZero", "internal/bytealg.CountString"], unfollowed := true, recurses := true, named := ["unicode/utf8.first", "unicode/utf8.acceptRanges", "internal/bytealg.MaxLen"], plainKeys := false, apart := false, laid := [("unicode/utf8.acceptRanges", laid_unicode_utf8_acceptRanges), ("unicode/utf8.first", laid_unicode_utf8_first)], narrowed := true }
def TopicForthUptoSaid : Prop := topicForthUptoRow.holds Tryd.pinned (OpenSpec.upto topicForthSpec)

/-- 'humpyardlaw07.TopicFilters', WHERE WHAT IT READS IS OF BULK AT MOST 1048576: true; the input reads as it did. -/
def topicFiltersUptoRow : OpenClaim := { program := "ytmogappoadglgaadoor", sum := "c91942254bb81fd849031fd24d9408c05724208646396d858cd93b786fb544df", func := "humpyard/humpyardlaw07.TopicFilters", spec := "topicFilters", inPlace := ["internal/bytealg.IndexByteString", "internal/bytealg.IndexString", "internal/abi.NoEscape", "internal/bytealg.MakeNoZero", "internal/bytealg.CountString"], unfollowed := true, recurses := true, named := ["unicode/utf8.first", "unicode/utf8.acceptRanges", "internal/bytealg.MaxLen"], plainKeys := false, apart := false, laid := [("unicode/utf8.acceptRanges", laid_unicode_utf8_acceptRanges), ("unicode/utf8.first", laid_unicode_utf8_first)], narrowed := true }
def TopicFiltersUptoSaid : Prop := topicFiltersUptoRow.holds Tryd.pinned (OpenSpec.upto topicFiltersSpec)

/-- 'humpyardlaw07.TopicNames', WHERE WHAT IT READS IS OF BULK AT MOST 1048576: true; the input reads as it did. -/
def topicNamesUptoRow : OpenClaim := { program := "ytmogappoadglgaadoor", sum := "c91942254bb81fd849031fd24d9408c05724208646396d858cd93b786fb544df", func := "humpyard/humpyardlaw07.TopicNames", spec := "topicNames", inPlace := ["internal/bytealg.IndexByteString", "internal/bytealg.IndexString", "internal/abi.NoEscape", "internal/bytealg.MakeNoZero", "internal/bytealg.CountString"], unfollowed := true, recurses := true, named := ["unicode/utf8.first", "unicode/utf8.acceptRanges", "internal/bytealg.MaxLen"], plainKeys := false, apart := false, laid := [("unicode/utf8.acceptRanges", laid_unicode_utf8_acceptRanges), ("unicode/utf8.first", laid_unicode_utf8_first)], narrowed := true }
def TopicNamesUptoSaid : Prop := topicNamesUptoRow.holds Tryd.pinned (OpenSpec.upto topicNamesSpec)

/-- 'humpyardlaw07.TopicApart', WHERE WHAT IT READS IS OF BULK AT MOST 1048576: true; the input reads as it did. -/
def topicApartUptoRow : OpenClaim := { program := "ytmogappoadglgaadoor", sum := "c91942254bb81fd849031fd24d9408c05724208646396d858cd93b786fb544df", func := "humpyard/humpyardlaw07.TopicApart", spec := "topicApart", inPlace := ["internal/bytealg.IndexByteString", "internal/bytealg.IndexString", "internal/abi.NoEscape", "internal/bytealg.MakeNoZero", "internal/bytealg.CountString"], unfollowed := true, recurses := true, named := ["unicode/utf8.first", "unicode/utf8.acceptRanges", "internal/bytealg.MaxLen"], plainKeys := false, apart := false, laid := [("unicode/utf8.acceptRanges", laid_unicode_utf8_acceptRanges), ("unicode/utf8.first", laid_unicode_utf8_first)], narrowed := true }
def TopicApartUptoSaid : Prop := topicApartUptoRow.holds Tryd.pinned (OpenSpec.upto topicApartSpec)

/-- 'humpyardlaw07.TopicParts', WHERE WHAT IT READS IS OF BULK AT MOST 1048576: true; the input reads as it did. -/
def topicPartsUptoRow : OpenClaim := { program := "ytmogappoadglgaadoor", sum := "c91942254bb81fd849031fd24d9408c05724208646396d858cd93b786fb544df", func := "humpyard/humpyardlaw07.TopicParts", spec := "topicParts", inPlace := ["internal/bytealg.IndexByteString", "internal/bytealg.IndexString", "internal/abi.NoEscape", "internal/bytealg.MakeNoZero", "internal/bytealg.CountString"], unfollowed := true, recurses := true, named := ["unicode/utf8.first", "unicode/utf8.acceptRanges", "internal/bytealg.MaxLen"], plainKeys := false, apart := false, laid := [("unicode/utf8.acceptRanges", laid_unicode_utf8_acceptRanges), ("unicode/utf8.first", laid_unicode_utf8_first)], narrowed := true }
def TopicPartsUptoSaid : Prop := topicPartsUptoRow.holds Tryd.pinned (OpenSpec.upto topicPartsSpec)

end Rows
end Go.Proofs.YtmogappoadglgaaDoor
