/-
  NARROWER THAN 'FOR EVERY INPUT', by the rows' own cells (each row's printed sentence says how): ParserParses: laid · ParserExpressions: laid · ParserPrints: laid · ParserShows: laid · ParserRound: laid · ParserBuilds: laid · ParserTail: laid · ParserConcat: laid · ParserParens: laid · ParserFollows: laid · ParserSpaces: laid.
  DERIVED. THE GIVEN ROWS OF THIS SEAT. 11 by the template 'for every input the law returns true; each argument reads behind the call as it read before'; 0 by the template 'total and deterministic' (their statements: YtnpenepdechkjaaGreatDoorTotals.lean).
  GIVEN WITH THE SEED: the statements are not yours to turn. If you find one false, say at which input.
  Laid BY PROGRAM, IN A SANDBOX (cutbox-rows.mjs): the forced cells as the released guide's own fill.sh prints them over the translation 753515f880787d59… (all of the seat's roots in one cut). By AI agents, Wed Nov 11 2026. No macro, syntax, notation, axiom, sorry.
-/
import Derived.Test.YtnpenepdechkjaaGreatDoorChecked
import GoSem.Claim
import GoSem.ClaimJoined
import GoSem.ClaimMapViews
import Derived.JoinedTies
import Derived.KernelRfl
namespace Go.Proofs.YtnpenepdechkjaaGreatDoor
/- THE CELL 'sum', in the pinned program and in every row, IS THE sha256 OF THE DUMP (.gsa) THAT YtnpenepdechkjaaGreatDoorProg.lean LOADS. Nothing in Lean hashes anything: it is a label: what it is worth is what the hold of that sum in a sandbox is worth. -/
noncomputable def Tryz.pinned : Pinned := { name := "ytnpenepdechkjaagreatdoor", sum := "753515f880787d59ee3b285756b67374dc483e3925b3783d857bed21ae92f162", checked := Tryz.checked }
namespace Rows
def none {H : Type} : Left H := { results := [], args := [] }

/- WHAT THE LISTED PACKAGE-LEVEL VARIABLES READ AS WHEN THE CALL BEGINS. Each datum BY PROGRAM (the guide's laid-datum.mjs) off the statement by which the dump's own 'gosem.cut.vars' lays the variable. In a bare row this is a premise. The card (YtnpenepdechkjaaGreatDoorCards.lean) ties it to the program's text. -/
def laid_math_bits_deBruijn32tab {H : Type} : DataW H := .agg [.lit (.int .u8 0), .lit (.int .u8 1), .lit (.int .u8 28), .lit (.int .u8 2), .lit (.int .u8 29), .lit (.int .u8 14), .lit (.int .u8 24), .lit (.int .u8 3), .lit (.int .u8 30), .lit (.int .u8 22), .lit (.int .u8 20), .lit (.int .u8 15), .lit (.int .u8 25), .lit (.int .u8 17), .lit (.int .u8 4), .lit (.int .u8 8), .lit (.int .u8 31), .lit (.int .u8 27), .lit (.int .u8 13), .lit (.int .u8 23), .lit (.int .u8 21), .lit (.int .u8 19), .lit (.int .u8 16), .lit (.int .u8 7), .lit (.int .u8 26), .lit (.int .u8 12), .lit (.int .u8 18), .lit (.int .u8 6), .lit (.int .u8 11), .lit (.int .u8 5), .lit (.int .u8 10), .lit (.int .u8 9)]
def laid_math_bits_deBruijn64tab {H : Type} : DataW H := .agg [.lit (.int .u8 0), .lit (.int .u8 1), .lit (.int .u8 56), .lit (.int .u8 2), .lit (.int .u8 57), .lit (.int .u8 49), .lit (.int .u8 28), .lit (.int .u8 3), .lit (.int .u8 61), .lit (.int .u8 58), .lit (.int .u8 42), .lit (.int .u8 50), .lit (.int .u8 38), .lit (.int .u8 29), .lit (.int .u8 17), .lit (.int .u8 4), .lit (.int .u8 62), .lit (.int .u8 47), .lit (.int .u8 59), .lit (.int .u8 36), .lit (.int .u8 45), .lit (.int .u8 43), .lit (.int .u8 51), .lit (.int .u8 22), .lit (.int .u8 53), .lit (.int .u8 39), .lit (.int .u8 33), .lit (.int .u8 30), .lit (.int .u8 24), .lit (.int .u8 18), .lit (.int .u8 12), .lit (.int .u8 5), .lit (.int .u8 63), .lit (.int .u8 55), .lit (.int .u8 48), .lit (.int .u8 27), .lit (.int .u8 60), .lit (.int .u8 41), .lit (.int .u8 37), .lit (.int .u8 16), .lit (.int .u8 46), .lit (.int .u8 35), .lit (.int .u8 44), .lit (.int .u8 21), .lit (.int .u8 52), .lit (.int .u8 32), .lit (.int .u8 23), .lit (.int .u8 11), .lit (.int .u8 54), .lit (.int .u8 26), .lit (.int .u8 40), .lit (.int .u8 15), .lit (.int .u8 34), .lit (.int .u8 20), .lit (.int .u8 31), .lit (.int .u8 10), .lit (.int .u8 25), .lit (.int .u8 14), .lit (.int .u8 19), .lit (.int .u8 9), .lit (.int .u8 13), .lit (.int .u8 8), .lit (.int .u8 7), .lit (.int .u8 6)]
def laid_internal_strconv_uint64pow10 {H : Type} : DataW H := .agg [.lit (.int .u64 1), .lit (.int .u64 10), .lit (.int .u64 100), .lit (.int .u64 1000), .lit (.int .u64 10000), .lit (.int .u64 100000), .lit (.int .u64 1000000), .lit (.int .u64 10000000), .lit (.int .u64 100000000), .lit (.int .u64 1000000000), .lit (.int .u64 10000000000), .lit (.int .u64 100000000000), .lit (.int .u64 1000000000000), .lit (.int .u64 10000000000000), .lit (.int .u64 100000000000000), .lit (.int .u64 1000000000000000), .lit (.int .u64 10000000000000000), .lit (.int .u64 100000000000000000), .lit (.int .u64 1000000000000000000), .lit (.int .u64 10000000000000000000)]
def laid_strconv_ErrRange {H : Type} : DataW H := .iface "*errors.errorString" (.ptr (.agg [.lit (.string [118, 97, 108, 117, 101, 32, 111, 117, 116, 32, 111, 102, 32, 114, 97, 110, 103, 101])]))
def laid_strconv_ErrSyntax {H : Type} : DataW H := .iface "*errors.errorString" (.ptr (.agg [.lit (.string [105, 110, 118, 97, 108, 105, 100, 32, 115, 121, 110, 116, 97, 120])]))
def laid_rollbook_date_lengths {H : Type} : DataW H := .agg [.lit (.int .i64 0), .lit (.int .i64 31), .lit (.int .i64 28), .lit (.int .i64 31), .lit (.int .i64 30), .lit (.int .i64 31), .lit (.int .i64 30), .lit (.int .i64 31), .lit (.int .i64 31), .lit (.int .i64 30), .lit (.int .i64 31), .lit (.int .i64 30), .lit (.int .i64 31)]

/-- 'rollbooklaw13.ParserParses': WHATEVER THE INPUT: true; the input reads as it did. -/
def parserParsesSpec : ChangeSpec := { name := "parserParses", fn := fun _ => fun
  | [d] => { results := [.lit (.bool true)], args := [d] }
  | _ => none }
def parserParsesRow : OpenClaim := { program := "ytnpenepdechkjaagreatdoor", sum := "753515f880787d59ee3b285756b67374dc483e3925b3783d857bed21ae92f162", func := "rollbook/rollbooklaw13.ParserParses", spec := "parserParses", inPlace := ["internal/bytealg.IndexByteString", "internal/bytealg.IndexString", "internal/abi.NoEscape", "internal/bytealg.MakeNoZero"], unfollowed := true, recurses := true, named := ["strconv.ErrSyntax", "strconv.ErrRange", "internal/strconv.uint64pow10", "math/bits.deBruijn32tab", "math/bits.deBruijn64tab", "rollbook/date.lengths", "internal/bytealg.MaxLen"], apart := false, laid := [("math/bits.deBruijn32tab", laid_math_bits_deBruijn32tab), ("math/bits.deBruijn64tab", laid_math_bits_deBruijn64tab), ("internal/strconv.uint64pow10", laid_internal_strconv_uint64pow10), ("strconv.ErrRange", laid_strconv_ErrRange), ("strconv.ErrSyntax", laid_strconv_ErrSyntax), ("rollbook/date.lengths", laid_rollbook_date_lengths)] }
def ParserParsesSaid : Prop := parserParsesRow.holds Tryz.pinned (OpenSpec.ofChange parserParsesSpec)

/-- ITS FALSE NEIGHBOUR: 'it returns false'. Refute it at one input. -/
def parserParsesWrong : ChangeSpec := { name := "parserParses", fn := fun _ => fun
  | [d] => { results := [.lit (.bool false)], args := [d] }
  | _ => none }
def ParserParsesWrongFalsely : Prop := parserParsesRow.holds Tryz.pinned (OpenSpec.ofChange parserParsesWrong)

/-- 'rollbooklaw13.ParserExpressions': WHATEVER THE INPUT: true; the input reads as it did. -/
def parserExpressionsSpec : ChangeSpec := { name := "parserExpressions", fn := fun _ => fun
  | [d] => { results := [.lit (.bool true)], args := [d] }
  | _ => none }
def parserExpressionsRow : OpenClaim := { program := "ytnpenepdechkjaagreatdoor", sum := "753515f880787d59ee3b285756b67374dc483e3925b3783d857bed21ae92f162", func := "rollbook/rollbooklaw13.ParserExpressions", spec := "parserExpressions", inPlace := ["internal/bytealg.IndexByteString", "internal/bytealg.IndexString", "internal/abi.NoEscape", "internal/bytealg.MakeNoZero"], unfollowed := true, recurses := true, named := ["strconv.ErrSyntax", "strconv.ErrRange", "internal/strconv.uint64pow10", "math/bits.deBruijn32tab", "math/bits.deBruijn64tab", "rollbook/date.lengths", "internal/bytealg.MaxLen"], apart := false, laid := [("math/bits.deBruijn32tab", laid_math_bits_deBruijn32tab), ("math/bits.deBruijn64tab", laid_math_bits_deBruijn64tab), ("internal/strconv.uint64pow10", laid_internal_strconv_uint64pow10), ("strconv.ErrRange", laid_strconv_ErrRange), ("strconv.ErrSyntax", laid_strconv_ErrSyntax), ("rollbook/date.lengths", laid_rollbook_date_lengths)] }
def ParserExpressionsSaid : Prop := parserExpressionsRow.holds Tryz.pinned (OpenSpec.ofChange parserExpressionsSpec)

/-- ITS FALSE NEIGHBOUR: 'it returns false'. Refute it at one input. -/
def parserExpressionsWrong : ChangeSpec := { name := "parserExpressions", fn := fun _ => fun
  | [d] => { results := [.lit (.bool false)], args := [d] }
  | _ => none }
def ParserExpressionsWrongFalsely : Prop := parserExpressionsRow.holds Tryz.pinned (OpenSpec.ofChange parserExpressionsWrong)

/-- 'rollbooklaw13.ParserPrints': WHATEVER THE INPUT: true; the input reads as it did. -/
def parserPrintsSpec : ChangeSpec := { name := "parserPrints", fn := fun _ => fun
  | [d] => { results := [.lit (.bool true)], args := [d] }
  | _ => none }
def parserPrintsRow : OpenClaim := { program := "ytnpenepdechkjaagreatdoor", sum := "753515f880787d59ee3b285756b67374dc483e3925b3783d857bed21ae92f162", func := "rollbook/rollbooklaw13.ParserPrints", spec := "parserPrints", inPlace := ["internal/abi.NoEscape", "internal/bytealg.MakeNoZero", "internal/bytealg.IndexByteString", "internal/bytealg.IndexString"], unfollowed := true, recurses := true, named := ["internal/strconv.uint64pow10", "math/bits.deBruijn32tab", "math/bits.deBruijn64tab", "strconv.ErrSyntax", "strconv.ErrRange", "rollbook/date.lengths", "internal/bytealg.MaxLen"], apart := false, laid := [("math/bits.deBruijn32tab", laid_math_bits_deBruijn32tab), ("math/bits.deBruijn64tab", laid_math_bits_deBruijn64tab), ("internal/strconv.uint64pow10", laid_internal_strconv_uint64pow10), ("strconv.ErrRange", laid_strconv_ErrRange), ("strconv.ErrSyntax", laid_strconv_ErrSyntax), ("rollbook/date.lengths", laid_rollbook_date_lengths)] }
def ParserPrintsSaid : Prop := parserPrintsRow.holds Tryz.pinned (OpenSpec.ofChange parserPrintsSpec)

/-- ITS FALSE NEIGHBOUR: 'it returns false'. Refute it at one input. -/
def parserPrintsWrong : ChangeSpec := { name := "parserPrints", fn := fun _ => fun
  | [d] => { results := [.lit (.bool false)], args := [d] }
  | _ => none }
def ParserPrintsWrongFalsely : Prop := parserPrintsRow.holds Tryz.pinned (OpenSpec.ofChange parserPrintsWrong)

/-- 'rollbooklaw13.ParserShows': WHATEVER THE INPUT: true; the input reads as it did. -/
def parserShowsSpec : ChangeSpec := { name := "parserShows", fn := fun _ => fun
  | [d] => { results := [.lit (.bool true)], args := [d] }
  | _ => none }
def parserShowsRow : OpenClaim := { program := "ytnpenepdechkjaagreatdoor", sum := "753515f880787d59ee3b285756b67374dc483e3925b3783d857bed21ae92f162", func := "rollbook/rollbooklaw13.ParserShows", spec := "parserShows", inPlace := ["internal/abi.NoEscape", "internal/bytealg.MakeNoZero", "internal/bytealg.IndexByteString", "internal/bytealg.IndexString"], unfollowed := true, recurses := true, named := ["internal/strconv.uint64pow10", "math/bits.deBruijn32tab", "math/bits.deBruijn64tab", "strconv.ErrSyntax", "strconv.ErrRange", "rollbook/date.lengths", "internal/bytealg.MaxLen"], apart := false, laid := [("math/bits.deBruijn32tab", laid_math_bits_deBruijn32tab), ("math/bits.deBruijn64tab", laid_math_bits_deBruijn64tab), ("internal/strconv.uint64pow10", laid_internal_strconv_uint64pow10), ("strconv.ErrRange", laid_strconv_ErrRange), ("strconv.ErrSyntax", laid_strconv_ErrSyntax), ("rollbook/date.lengths", laid_rollbook_date_lengths)] }
def ParserShowsSaid : Prop := parserShowsRow.holds Tryz.pinned (OpenSpec.ofChange parserShowsSpec)

/-- ITS FALSE NEIGHBOUR: 'it returns false'. Refute it at one input. -/
def parserShowsWrong : ChangeSpec := { name := "parserShows", fn := fun _ => fun
  | [d] => { results := [.lit (.bool false)], args := [d] }
  | _ => none }
def ParserShowsWrongFalsely : Prop := parserShowsRow.holds Tryz.pinned (OpenSpec.ofChange parserShowsWrong)

/-- 'rollbooklaw13.ParserRound': WHATEVER THE INPUT: true; the input reads as it did. -/
def parserRoundSpec : ChangeSpec := { name := "parserRound", fn := fun _ => fun
  | [d] => { results := [.lit (.bool true)], args := [d] }
  | _ => none }
def parserRoundRow : OpenClaim := { program := "ytnpenepdechkjaagreatdoor", sum := "753515f880787d59ee3b285756b67374dc483e3925b3783d857bed21ae92f162", func := "rollbook/rollbooklaw13.ParserRound", spec := "parserRound", inPlace := ["internal/bytealg.IndexByteString", "internal/bytealg.IndexString", "internal/abi.NoEscape", "internal/bytealg.MakeNoZero"], unfollowed := true, recurses := true, named := ["strconv.ErrSyntax", "strconv.ErrRange", "internal/strconv.uint64pow10", "math/bits.deBruijn32tab", "math/bits.deBruijn64tab", "rollbook/date.lengths", "internal/bytealg.MaxLen"], apart := false, laid := [("math/bits.deBruijn32tab", laid_math_bits_deBruijn32tab), ("math/bits.deBruijn64tab", laid_math_bits_deBruijn64tab), ("internal/strconv.uint64pow10", laid_internal_strconv_uint64pow10), ("strconv.ErrRange", laid_strconv_ErrRange), ("strconv.ErrSyntax", laid_strconv_ErrSyntax), ("rollbook/date.lengths", laid_rollbook_date_lengths)] }
def ParserRoundSaid : Prop := parserRoundRow.holds Tryz.pinned (OpenSpec.ofChange parserRoundSpec)

/-- ITS FALSE NEIGHBOUR: 'it returns false'. Refute it at one input. -/
def parserRoundWrong : ChangeSpec := { name := "parserRound", fn := fun _ => fun
  | [d] => { results := [.lit (.bool false)], args := [d] }
  | _ => none }
def ParserRoundWrongFalsely : Prop := parserRoundRow.holds Tryz.pinned (OpenSpec.ofChange parserRoundWrong)

/-- 'rollbooklaw13.ParserBuilds': WHATEVER THE INPUT: true; the input reads as it did. -/
def parserBuildsSpec : ChangeSpec := { name := "parserBuilds", fn := fun _ => fun
  | [d] => { results := [.lit (.bool true)], args := [d] }
  | _ => none }
def parserBuildsRow : OpenClaim := { program := "ytnpenepdechkjaagreatdoor", sum := "753515f880787d59ee3b285756b67374dc483e3925b3783d857bed21ae92f162", func := "rollbook/rollbooklaw13.ParserBuilds", spec := "parserBuilds", inPlace := ["internal/abi.NoEscape", "internal/bytealg.MakeNoZero", "internal/bytealg.IndexByteString", "internal/bytealg.IndexString"], unfollowed := true, recurses := true, named := ["internal/strconv.uint64pow10", "math/bits.deBruijn32tab", "math/bits.deBruijn64tab", "strconv.ErrSyntax", "strconv.ErrRange", "rollbook/date.lengths", "internal/bytealg.MaxLen"], apart := false, laid := [("math/bits.deBruijn32tab", laid_math_bits_deBruijn32tab), ("math/bits.deBruijn64tab", laid_math_bits_deBruijn64tab), ("internal/strconv.uint64pow10", laid_internal_strconv_uint64pow10), ("strconv.ErrRange", laid_strconv_ErrRange), ("strconv.ErrSyntax", laid_strconv_ErrSyntax), ("rollbook/date.lengths", laid_rollbook_date_lengths)] }
def ParserBuildsSaid : Prop := parserBuildsRow.holds Tryz.pinned (OpenSpec.ofChange parserBuildsSpec)

/-- ITS FALSE NEIGHBOUR: 'it returns false'. Refute it at one input. -/
def parserBuildsWrong : ChangeSpec := { name := "parserBuilds", fn := fun _ => fun
  | [d] => { results := [.lit (.bool false)], args := [d] }
  | _ => none }
def ParserBuildsWrongFalsely : Prop := parserBuildsRow.holds Tryz.pinned (OpenSpec.ofChange parserBuildsWrong)

/-- 'rollbooklaw13.ParserTail': WHATEVER THE INPUT: true; the input reads as it did. -/
def parserTailSpec : ChangeSpec := { name := "parserTail", fn := fun _ => fun
  | [d1, d2] => { results := [.lit (.bool true)], args := [d1, d2] }
  | _ => none }
def parserTailRow : OpenClaim := { program := "ytnpenepdechkjaagreatdoor", sum := "753515f880787d59ee3b285756b67374dc483e3925b3783d857bed21ae92f162", func := "rollbook/rollbooklaw13.ParserTail", spec := "parserTail", inPlace := ["internal/bytealg.IndexByteString", "internal/bytealg.IndexString", "internal/abi.NoEscape", "internal/bytealg.MakeNoZero"], unfollowed := true, recurses := true, named := ["strconv.ErrSyntax", "strconv.ErrRange", "internal/strconv.uint64pow10", "math/bits.deBruijn32tab", "math/bits.deBruijn64tab", "rollbook/date.lengths", "internal/bytealg.MaxLen"], apart := false, laid := [("math/bits.deBruijn32tab", laid_math_bits_deBruijn32tab), ("math/bits.deBruijn64tab", laid_math_bits_deBruijn64tab), ("internal/strconv.uint64pow10", laid_internal_strconv_uint64pow10), ("strconv.ErrRange", laid_strconv_ErrRange), ("strconv.ErrSyntax", laid_strconv_ErrSyntax), ("rollbook/date.lengths", laid_rollbook_date_lengths)] }
def ParserTailSaid : Prop := parserTailRow.holds Tryz.pinned (OpenSpec.ofChange parserTailSpec)

/-- ITS FALSE NEIGHBOUR: 'it returns false'. Refute it at one input. -/
def parserTailWrong : ChangeSpec := { name := "parserTail", fn := fun _ => fun
  | [d1, d2] => { results := [.lit (.bool false)], args := [d1, d2] }
  | _ => none }
def ParserTailWrongFalsely : Prop := parserTailRow.holds Tryz.pinned (OpenSpec.ofChange parserTailWrong)

/-- 'rollbooklaw13.ParserConcat': WHATEVER THE INPUT: true; the input reads as it did. -/
def parserConcatSpec : ChangeSpec := { name := "parserConcat", fn := fun _ => fun
  | [d1, d2] => { results := [.lit (.bool true)], args := [d1, d2] }
  | _ => none }
def parserConcatRow : OpenClaim := { program := "ytnpenepdechkjaagreatdoor", sum := "753515f880787d59ee3b285756b67374dc483e3925b3783d857bed21ae92f162", func := "rollbook/rollbooklaw13.ParserConcat", spec := "parserConcat", inPlace := ["internal/bytealg.IndexByteString", "internal/bytealg.IndexString", "internal/abi.NoEscape", "internal/bytealg.MakeNoZero"], unfollowed := true, recurses := true, named := ["strconv.ErrSyntax", "strconv.ErrRange", "internal/strconv.uint64pow10", "math/bits.deBruijn32tab", "math/bits.deBruijn64tab", "rollbook/date.lengths", "internal/bytealg.MaxLen"], apart := false, laid := [("math/bits.deBruijn32tab", laid_math_bits_deBruijn32tab), ("math/bits.deBruijn64tab", laid_math_bits_deBruijn64tab), ("internal/strconv.uint64pow10", laid_internal_strconv_uint64pow10), ("strconv.ErrRange", laid_strconv_ErrRange), ("strconv.ErrSyntax", laid_strconv_ErrSyntax), ("rollbook/date.lengths", laid_rollbook_date_lengths)] }
def ParserConcatSaid : Prop := parserConcatRow.holds Tryz.pinned (OpenSpec.ofChange parserConcatSpec)

/-- ITS FALSE NEIGHBOUR: 'it returns false'. Refute it at one input. -/
def parserConcatWrong : ChangeSpec := { name := "parserConcat", fn := fun _ => fun
  | [d1, d2] => { results := [.lit (.bool false)], args := [d1, d2] }
  | _ => none }
def ParserConcatWrongFalsely : Prop := parserConcatRow.holds Tryz.pinned (OpenSpec.ofChange parserConcatWrong)

/-- 'rollbooklaw13.ParserParens': WHATEVER THE INPUT: true; the input reads as it did. -/
def parserParensSpec : ChangeSpec := { name := "parserParens", fn := fun _ => fun
  | [d] => { results := [.lit (.bool true)], args := [d] }
  | _ => none }
def parserParensRow : OpenClaim := { program := "ytnpenepdechkjaagreatdoor", sum := "753515f880787d59ee3b285756b67374dc483e3925b3783d857bed21ae92f162", func := "rollbook/rollbooklaw13.ParserParens", spec := "parserParens", inPlace := ["internal/abi.NoEscape", "internal/bytealg.MakeNoZero", "internal/bytealg.IndexByteString", "internal/bytealg.IndexString"], unfollowed := true, recurses := true, named := ["internal/strconv.uint64pow10", "math/bits.deBruijn32tab", "math/bits.deBruijn64tab", "strconv.ErrSyntax", "strconv.ErrRange", "rollbook/date.lengths", "internal/bytealg.MaxLen"], apart := false, laid := [("math/bits.deBruijn32tab", laid_math_bits_deBruijn32tab), ("math/bits.deBruijn64tab", laid_math_bits_deBruijn64tab), ("internal/strconv.uint64pow10", laid_internal_strconv_uint64pow10), ("strconv.ErrRange", laid_strconv_ErrRange), ("strconv.ErrSyntax", laid_strconv_ErrSyntax), ("rollbook/date.lengths", laid_rollbook_date_lengths)] }
def ParserParensSaid : Prop := parserParensRow.holds Tryz.pinned (OpenSpec.ofChange parserParensSpec)

/-- ITS FALSE NEIGHBOUR: 'it returns false'. Refute it at one input. -/
def parserParensWrong : ChangeSpec := { name := "parserParens", fn := fun _ => fun
  | [d] => { results := [.lit (.bool false)], args := [d] }
  | _ => none }
def ParserParensWrongFalsely : Prop := parserParensRow.holds Tryz.pinned (OpenSpec.ofChange parserParensWrong)

/-- 'rollbooklaw13.ParserFollows': WHATEVER THE INPUT: true; the input reads as it did. -/
def parserFollowsSpec : ChangeSpec := { name := "parserFollows", fn := fun _ => fun
  | [d] => { results := [.lit (.bool true)], args := [d] }
  | _ => none }
def parserFollowsRow : OpenClaim := { program := "ytnpenepdechkjaagreatdoor", sum := "753515f880787d59ee3b285756b67374dc483e3925b3783d857bed21ae92f162", func := "rollbook/rollbooklaw13.ParserFollows", spec := "parserFollows", inPlace := ["internal/bytealg.IndexByteString", "internal/bytealg.IndexString", "internal/abi.NoEscape", "internal/bytealg.MakeNoZero"], unfollowed := true, recurses := true, named := ["strconv.ErrSyntax", "strconv.ErrRange", "internal/strconv.uint64pow10", "math/bits.deBruijn32tab", "math/bits.deBruijn64tab", "rollbook/date.lengths", "internal/bytealg.MaxLen"], apart := false, laid := [("math/bits.deBruijn32tab", laid_math_bits_deBruijn32tab), ("math/bits.deBruijn64tab", laid_math_bits_deBruijn64tab), ("internal/strconv.uint64pow10", laid_internal_strconv_uint64pow10), ("strconv.ErrRange", laid_strconv_ErrRange), ("strconv.ErrSyntax", laid_strconv_ErrSyntax), ("rollbook/date.lengths", laid_rollbook_date_lengths)] }
def ParserFollowsSaid : Prop := parserFollowsRow.holds Tryz.pinned (OpenSpec.ofChange parserFollowsSpec)

/-- ITS FALSE NEIGHBOUR: 'it returns false'. Refute it at one input. -/
def parserFollowsWrong : ChangeSpec := { name := "parserFollows", fn := fun _ => fun
  | [d] => { results := [.lit (.bool false)], args := [d] }
  | _ => none }
def ParserFollowsWrongFalsely : Prop := parserFollowsRow.holds Tryz.pinned (OpenSpec.ofChange parserFollowsWrong)

/-- 'rollbooklaw13.ParserSpaces': WHATEVER THE INPUT: true; the input reads as it did. -/
def parserSpacesSpec : ChangeSpec := { name := "parserSpaces", fn := fun _ => fun
  | [d] => { results := [.lit (.bool true)], args := [d] }
  | _ => none }
def parserSpacesRow : OpenClaim := { program := "ytnpenepdechkjaagreatdoor", sum := "753515f880787d59ee3b285756b67374dc483e3925b3783d857bed21ae92f162", func := "rollbook/rollbooklaw13.ParserSpaces", spec := "parserSpaces", inPlace := ["internal/bytealg.IndexByteString", "internal/bytealg.IndexString", "internal/abi.NoEscape", "internal/bytealg.MakeNoZero"], unfollowed := true, recurses := true, named := ["strconv.ErrSyntax", "strconv.ErrRange", "internal/strconv.uint64pow10", "math/bits.deBruijn32tab", "math/bits.deBruijn64tab", "rollbook/date.lengths", "internal/bytealg.MaxLen"], apart := false, laid := [("math/bits.deBruijn32tab", laid_math_bits_deBruijn32tab), ("math/bits.deBruijn64tab", laid_math_bits_deBruijn64tab), ("internal/strconv.uint64pow10", laid_internal_strconv_uint64pow10), ("strconv.ErrRange", laid_strconv_ErrRange), ("strconv.ErrSyntax", laid_strconv_ErrSyntax), ("rollbook/date.lengths", laid_rollbook_date_lengths)] }
def ParserSpacesSaid : Prop := parserSpacesRow.holds Tryz.pinned (OpenSpec.ofChange parserSpacesSpec)

/-- ITS FALSE NEIGHBOUR: 'it returns false'. Refute it at one input. -/
def parserSpacesWrong : ChangeSpec := { name := "parserSpaces", fn := fun _ => fun
  | [d] => { results := [.lit (.bool false)], args := [d] }
  | _ => none }
def ParserSpacesWrongFalsely : Prop := parserSpacesRow.holds Tryz.pinned (OpenSpec.ofChange parserSpacesWrong)

/- THE SECOND FORM. 'bulk': how many values and letters a reading holds, each counted each time it is reached (what is shared counts as often as it is met; a slice's spare places count too). A statement '..UptoSaid' is the law's where the arguments, and the package variables that the reading takes, are together of bulk at most 1048576: NARROWER than '..Said'. Prove '..Said' where nothing that the law and all that it calls make is longer than what came in: it says more and counts as full. Else prove '..UptoSaid'. A law counts once. -/
mutual
def uptoBulk {H : Type} : DataW H → Nat
  | .lit (.string bytes) => bytes.length + 1
  | .lit _ => 1
  | .nil => 1
  | .ptr d => uptoBulk d + 1
  | .slice elems spare => uptoBulkAll elems + uptoBulkAll spare + 1
  | .agg parts => uptoBulkAll parts + 1
  | .iface _ d => uptoBulk d + 1
  | .map entries => uptoBulkEntries entries + 1
  | .held _ => 1
def uptoBulkAll {H : Type} : List (DataW H) → Nat
  | [] => 0
  | d :: r => uptoBulk d + uptoBulkAll r
def uptoBulkEntries {H : Type} : List (Lit × DataW H) → Nat
  | [] => 0
  | x :: r => uptoBulkEntry x + uptoBulkEntries r
def uptoBulkEntry {H : Type} : Lit × DataW H → Nat
  | (.string bytes, d) => bytes.length + uptoBulk d + 1
  | (_, d) => uptoBulk d + 1
 end
def uptoSmall : (H : Type) → List (DataW H) → Bool := fun _ ds => decide (uptoBulkAll ds ≤ 1048576)
def OpenSpec.upto (s : _root_.Go.ChangeSpec) : _root_.Go.OpenSpec := { _root_.Go.OpenSpec.ofChange s with cond := some uptoSmall }

/-- 'rollbooklaw13.ParserParses', WHERE WHAT IT READS IS OF BULK AT MOST 1048576: true; the input reads as it did. -/
def parserParsesUptoRow : OpenClaim := { program := "ytnpenepdechkjaagreatdoor", sum := "753515f880787d59ee3b285756b67374dc483e3925b3783d857bed21ae92f162", func := "rollbook/rollbooklaw13.ParserParses", spec := "parserParses", inPlace := ["internal/bytealg.IndexByteString", "internal/bytealg.IndexString", "internal/abi.NoEscape", "internal/bytealg.MakeNoZero"], unfollowed := true, recurses := true, named := ["strconv.ErrSyntax", "strconv.ErrRange", "internal/strconv.uint64pow10", "math/bits.deBruijn32tab", "math/bits.deBruijn64tab", "rollbook/date.lengths", "internal/bytealg.MaxLen"], apart := false, laid := [("math/bits.deBruijn32tab", laid_math_bits_deBruijn32tab), ("math/bits.deBruijn64tab", laid_math_bits_deBruijn64tab), ("internal/strconv.uint64pow10", laid_internal_strconv_uint64pow10), ("strconv.ErrRange", laid_strconv_ErrRange), ("strconv.ErrSyntax", laid_strconv_ErrSyntax), ("rollbook/date.lengths", laid_rollbook_date_lengths)], narrowed := true }
def ParserParsesUptoSaid : Prop := parserParsesUptoRow.holds Tryz.pinned (OpenSpec.upto parserParsesSpec)

/-- 'rollbooklaw13.ParserExpressions', WHERE WHAT IT READS IS OF BULK AT MOST 1048576: true; the input reads as it did. -/
def parserExpressionsUptoRow : OpenClaim := { program := "ytnpenepdechkjaagreatdoor", sum := "753515f880787d59ee3b285756b67374dc483e3925b3783d857bed21ae92f162", func := "rollbook/rollbooklaw13.ParserExpressions", spec := "parserExpressions", inPlace := ["internal/bytealg.IndexByteString", "internal/bytealg.IndexString", "internal/abi.NoEscape", "internal/bytealg.MakeNoZero"], unfollowed := true, recurses := true, named := ["strconv.ErrSyntax", "strconv.ErrRange", "internal/strconv.uint64pow10", "math/bits.deBruijn32tab", "math/bits.deBruijn64tab", "rollbook/date.lengths", "internal/bytealg.MaxLen"], apart := false, laid := [("math/bits.deBruijn32tab", laid_math_bits_deBruijn32tab), ("math/bits.deBruijn64tab", laid_math_bits_deBruijn64tab), ("internal/strconv.uint64pow10", laid_internal_strconv_uint64pow10), ("strconv.ErrRange", laid_strconv_ErrRange), ("strconv.ErrSyntax", laid_strconv_ErrSyntax), ("rollbook/date.lengths", laid_rollbook_date_lengths)], narrowed := true }
def ParserExpressionsUptoSaid : Prop := parserExpressionsUptoRow.holds Tryz.pinned (OpenSpec.upto parserExpressionsSpec)

/-- 'rollbooklaw13.ParserPrints', WHERE WHAT IT READS IS OF BULK AT MOST 1048576: true; the input reads as it did. -/
def parserPrintsUptoRow : OpenClaim := { program := "ytnpenepdechkjaagreatdoor", sum := "753515f880787d59ee3b285756b67374dc483e3925b3783d857bed21ae92f162", func := "rollbook/rollbooklaw13.ParserPrints", spec := "parserPrints", inPlace := ["internal/abi.NoEscape", "internal/bytealg.MakeNoZero", "internal/bytealg.IndexByteString", "internal/bytealg.IndexString"], unfollowed := true, recurses := true, named := ["internal/strconv.uint64pow10", "math/bits.deBruijn32tab", "math/bits.deBruijn64tab", "strconv.ErrSyntax", "strconv.ErrRange", "rollbook/date.lengths", "internal/bytealg.MaxLen"], apart := false, laid := [("math/bits.deBruijn32tab", laid_math_bits_deBruijn32tab), ("math/bits.deBruijn64tab", laid_math_bits_deBruijn64tab), ("internal/strconv.uint64pow10", laid_internal_strconv_uint64pow10), ("strconv.ErrRange", laid_strconv_ErrRange), ("strconv.ErrSyntax", laid_strconv_ErrSyntax), ("rollbook/date.lengths", laid_rollbook_date_lengths)], narrowed := true }
def ParserPrintsUptoSaid : Prop := parserPrintsUptoRow.holds Tryz.pinned (OpenSpec.upto parserPrintsSpec)

/-- 'rollbooklaw13.ParserShows', WHERE WHAT IT READS IS OF BULK AT MOST 1048576: true; the input reads as it did. -/
def parserShowsUptoRow : OpenClaim := { program := "ytnpenepdechkjaagreatdoor", sum := "753515f880787d59ee3b285756b67374dc483e3925b3783d857bed21ae92f162", func := "rollbook/rollbooklaw13.ParserShows", spec := "parserShows", inPlace := ["internal/abi.NoEscape", "internal/bytealg.MakeNoZero", "internal/bytealg.IndexByteString", "internal/bytealg.IndexString"], unfollowed := true, recurses := true, named := ["internal/strconv.uint64pow10", "math/bits.deBruijn32tab", "math/bits.deBruijn64tab", "strconv.ErrSyntax", "strconv.ErrRange", "rollbook/date.lengths", "internal/bytealg.MaxLen"], apart := false, laid := [("math/bits.deBruijn32tab", laid_math_bits_deBruijn32tab), ("math/bits.deBruijn64tab", laid_math_bits_deBruijn64tab), ("internal/strconv.uint64pow10", laid_internal_strconv_uint64pow10), ("strconv.ErrRange", laid_strconv_ErrRange), ("strconv.ErrSyntax", laid_strconv_ErrSyntax), ("rollbook/date.lengths", laid_rollbook_date_lengths)], narrowed := true }
def ParserShowsUptoSaid : Prop := parserShowsUptoRow.holds Tryz.pinned (OpenSpec.upto parserShowsSpec)

/-- 'rollbooklaw13.ParserRound', WHERE WHAT IT READS IS OF BULK AT MOST 1048576: true; the input reads as it did. -/
def parserRoundUptoRow : OpenClaim := { program := "ytnpenepdechkjaagreatdoor", sum := "753515f880787d59ee3b285756b67374dc483e3925b3783d857bed21ae92f162", func := "rollbook/rollbooklaw13.ParserRound", spec := "parserRound", inPlace := ["internal/bytealg.IndexByteString", "internal/bytealg.IndexString", "internal/abi.NoEscape", "internal/bytealg.MakeNoZero"], unfollowed := true, recurses := true, named := ["strconv.ErrSyntax", "strconv.ErrRange", "internal/strconv.uint64pow10", "math/bits.deBruijn32tab", "math/bits.deBruijn64tab", "rollbook/date.lengths", "internal/bytealg.MaxLen"], apart := false, laid := [("math/bits.deBruijn32tab", laid_math_bits_deBruijn32tab), ("math/bits.deBruijn64tab", laid_math_bits_deBruijn64tab), ("internal/strconv.uint64pow10", laid_internal_strconv_uint64pow10), ("strconv.ErrRange", laid_strconv_ErrRange), ("strconv.ErrSyntax", laid_strconv_ErrSyntax), ("rollbook/date.lengths", laid_rollbook_date_lengths)], narrowed := true }
def ParserRoundUptoSaid : Prop := parserRoundUptoRow.holds Tryz.pinned (OpenSpec.upto parserRoundSpec)

/-- 'rollbooklaw13.ParserBuilds', WHERE WHAT IT READS IS OF BULK AT MOST 1048576: true; the input reads as it did. -/
def parserBuildsUptoRow : OpenClaim := { program := "ytnpenepdechkjaagreatdoor", sum := "753515f880787d59ee3b285756b67374dc483e3925b3783d857bed21ae92f162", func := "rollbook/rollbooklaw13.ParserBuilds", spec := "parserBuilds", inPlace := ["internal/abi.NoEscape", "internal/bytealg.MakeNoZero", "internal/bytealg.IndexByteString", "internal/bytealg.IndexString"], unfollowed := true, recurses := true, named := ["internal/strconv.uint64pow10", "math/bits.deBruijn32tab", "math/bits.deBruijn64tab", "strconv.ErrSyntax", "strconv.ErrRange", "rollbook/date.lengths", "internal/bytealg.MaxLen"], apart := false, laid := [("math/bits.deBruijn32tab", laid_math_bits_deBruijn32tab), ("math/bits.deBruijn64tab", laid_math_bits_deBruijn64tab), ("internal/strconv.uint64pow10", laid_internal_strconv_uint64pow10), ("strconv.ErrRange", laid_strconv_ErrRange), ("strconv.ErrSyntax", laid_strconv_ErrSyntax), ("rollbook/date.lengths", laid_rollbook_date_lengths)], narrowed := true }
def ParserBuildsUptoSaid : Prop := parserBuildsUptoRow.holds Tryz.pinned (OpenSpec.upto parserBuildsSpec)

/-- 'rollbooklaw13.ParserTail', WHERE WHAT IT READS IS OF BULK AT MOST 1048576: true; the input reads as it did. -/
def parserTailUptoRow : OpenClaim := { program := "ytnpenepdechkjaagreatdoor", sum := "753515f880787d59ee3b285756b67374dc483e3925b3783d857bed21ae92f162", func := "rollbook/rollbooklaw13.ParserTail", spec := "parserTail", inPlace := ["internal/bytealg.IndexByteString", "internal/bytealg.IndexString", "internal/abi.NoEscape", "internal/bytealg.MakeNoZero"], unfollowed := true, recurses := true, named := ["strconv.ErrSyntax", "strconv.ErrRange", "internal/strconv.uint64pow10", "math/bits.deBruijn32tab", "math/bits.deBruijn64tab", "rollbook/date.lengths", "internal/bytealg.MaxLen"], apart := false, laid := [("math/bits.deBruijn32tab", laid_math_bits_deBruijn32tab), ("math/bits.deBruijn64tab", laid_math_bits_deBruijn64tab), ("internal/strconv.uint64pow10", laid_internal_strconv_uint64pow10), ("strconv.ErrRange", laid_strconv_ErrRange), ("strconv.ErrSyntax", laid_strconv_ErrSyntax), ("rollbook/date.lengths", laid_rollbook_date_lengths)], narrowed := true }
def ParserTailUptoSaid : Prop := parserTailUptoRow.holds Tryz.pinned (OpenSpec.upto parserTailSpec)

/-- 'rollbooklaw13.ParserConcat', WHERE WHAT IT READS IS OF BULK AT MOST 1048576: true; the input reads as it did. -/
def parserConcatUptoRow : OpenClaim := { program := "ytnpenepdechkjaagreatdoor", sum := "753515f880787d59ee3b285756b67374dc483e3925b3783d857bed21ae92f162", func := "rollbook/rollbooklaw13.ParserConcat", spec := "parserConcat", inPlace := ["internal/bytealg.IndexByteString", "internal/bytealg.IndexString", "internal/abi.NoEscape", "internal/bytealg.MakeNoZero"], unfollowed := true, recurses := true, named := ["strconv.ErrSyntax", "strconv.ErrRange", "internal/strconv.uint64pow10", "math/bits.deBruijn32tab", "math/bits.deBruijn64tab", "rollbook/date.lengths", "internal/bytealg.MaxLen"], apart := false, laid := [("math/bits.deBruijn32tab", laid_math_bits_deBruijn32tab), ("math/bits.deBruijn64tab", laid_math_bits_deBruijn64tab), ("internal/strconv.uint64pow10", laid_internal_strconv_uint64pow10), ("strconv.ErrRange", laid_strconv_ErrRange), ("strconv.ErrSyntax", laid_strconv_ErrSyntax), ("rollbook/date.lengths", laid_rollbook_date_lengths)], narrowed := true }
def ParserConcatUptoSaid : Prop := parserConcatUptoRow.holds Tryz.pinned (OpenSpec.upto parserConcatSpec)

/-- 'rollbooklaw13.ParserParens', WHERE WHAT IT READS IS OF BULK AT MOST 1048576: true; the input reads as it did. -/
def parserParensUptoRow : OpenClaim := { program := "ytnpenepdechkjaagreatdoor", sum := "753515f880787d59ee3b285756b67374dc483e3925b3783d857bed21ae92f162", func := "rollbook/rollbooklaw13.ParserParens", spec := "parserParens", inPlace := ["internal/abi.NoEscape", "internal/bytealg.MakeNoZero", "internal/bytealg.IndexByteString", "internal/bytealg.IndexString"], unfollowed := true, recurses := true, named := ["internal/strconv.uint64pow10", "math/bits.deBruijn32tab", "math/bits.deBruijn64tab", "strconv.ErrSyntax", "strconv.ErrRange", "rollbook/date.lengths", "internal/bytealg.MaxLen"], apart := false, laid := [("math/bits.deBruijn32tab", laid_math_bits_deBruijn32tab), ("math/bits.deBruijn64tab", laid_math_bits_deBruijn64tab), ("internal/strconv.uint64pow10", laid_internal_strconv_uint64pow10), ("strconv.ErrRange", laid_strconv_ErrRange), ("strconv.ErrSyntax", laid_strconv_ErrSyntax), ("rollbook/date.lengths", laid_rollbook_date_lengths)], narrowed := true }
def ParserParensUptoSaid : Prop := parserParensUptoRow.holds Tryz.pinned (OpenSpec.upto parserParensSpec)

/-- 'rollbooklaw13.ParserFollows', WHERE WHAT IT READS IS OF BULK AT MOST 1048576: true; the input reads as it did. -/
def parserFollowsUptoRow : OpenClaim := { program := "ytnpenepdechkjaagreatdoor", sum := "753515f880787d59ee3b285756b67374dc483e3925b3783d857bed21ae92f162", func := "rollbook/rollbooklaw13.ParserFollows", spec := "parserFollows", inPlace := ["internal/bytealg.IndexByteString", "internal/bytealg.IndexString", "internal/abi.NoEscape", "internal/bytealg.MakeNoZero"], unfollowed := true, recurses := true, named := ["strconv.ErrSyntax", "strconv.ErrRange", "internal/strconv.uint64pow10", "math/bits.deBruijn32tab", "math/bits.deBruijn64tab", "rollbook/date.lengths", "internal/bytealg.MaxLen"], apart := false, laid := [("math/bits.deBruijn32tab", laid_math_bits_deBruijn32tab), ("math/bits.deBruijn64tab", laid_math_bits_deBruijn64tab), ("internal/strconv.uint64pow10", laid_internal_strconv_uint64pow10), ("strconv.ErrRange", laid_strconv_ErrRange), ("strconv.ErrSyntax", laid_strconv_ErrSyntax), ("rollbook/date.lengths", laid_rollbook_date_lengths)], narrowed := true }
def ParserFollowsUptoSaid : Prop := parserFollowsUptoRow.holds Tryz.pinned (OpenSpec.upto parserFollowsSpec)

/-- 'rollbooklaw13.ParserSpaces', WHERE WHAT IT READS IS OF BULK AT MOST 1048576: true; the input reads as it did. -/
def parserSpacesUptoRow : OpenClaim := { program := "ytnpenepdechkjaagreatdoor", sum := "753515f880787d59ee3b285756b67374dc483e3925b3783d857bed21ae92f162", func := "rollbook/rollbooklaw13.ParserSpaces", spec := "parserSpaces", inPlace := ["internal/bytealg.IndexByteString", "internal/bytealg.IndexString", "internal/abi.NoEscape", "internal/bytealg.MakeNoZero"], unfollowed := true, recurses := true, named := ["strconv.ErrSyntax", "strconv.ErrRange", "internal/strconv.uint64pow10", "math/bits.deBruijn32tab", "math/bits.deBruijn64tab", "rollbook/date.lengths", "internal/bytealg.MaxLen"], apart := false, laid := [("math/bits.deBruijn32tab", laid_math_bits_deBruijn32tab), ("math/bits.deBruijn64tab", laid_math_bits_deBruijn64tab), ("internal/strconv.uint64pow10", laid_internal_strconv_uint64pow10), ("strconv.ErrRange", laid_strconv_ErrRange), ("strconv.ErrSyntax", laid_strconv_ErrSyntax), ("rollbook/date.lengths", laid_rollbook_date_lengths)], narrowed := true }
def ParserSpacesUptoSaid : Prop := parserSpacesUptoRow.holds Tryz.pinned (OpenSpec.upto parserSpacesSpec)

end Rows
end Go.Proofs.YtnpenepdechkjaaGreatDoor
