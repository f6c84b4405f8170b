/-
  NARROWER THAN 'FOR EVERY INPUT', by the rows' own cells (each row's printed sentence says how): LexerTokens: laid · LexerLimits: laid · LexerShows: laid · LexerRound: laid · LexerCovers: laid · LexerFirst: laid · LexerSpaces: laid · LexerConcat: laid · LexerLongest: laid · LexerNumbers: laid.
  DERIVED. THE GIVEN ROWS OF THIS SEAT. 10 by the template 'for every input the law returns true; each argument reads behind the call as it read before'; 0 by the template 'total and deterministic' (their statements: YtbmcplnfamgpcaaDoorTotals.lean).
  GIVEN WITH THE SEED: the statements are not yours to turn. If you find one false, say at which input.
  Laid BY PROGRAM, IN A SANDBOX (cutbox-rows.mjs): the forced cells as the released guide's own fill.sh prints them over the translation 110f9b25a33958f3… (all of the seat's roots in one cut). By AI agents, Wed Nov 11 2026. No macro, syntax, notation, axiom, sorry.
-/
import Derived.Test.YtbmcplnfamgpcaaDoorChecked
import GoSem.Claim
import GoSem.ClaimJoined
import GoSem.ClaimMapViews
import Derived.JoinedTies
import Derived.KernelRfl
namespace Go.Proofs.YtbmcplnfamgpcaaDoor
/- THE CELL 'sum', in the pinned program and in every row, IS THE sha256 OF THE DUMP (.gsa) THAT YtbmcplnfamgpcaaDoorProg.lean LOADS. Nothing in Lean hashes anything: it is a label: what it is worth is what the hold of that sum in a sandbox is worth. -/
noncomputable def Tryd.pinned : Pinned := { name := "ytbmcplnfamgpcaadoor", sum := "110f9b25a33958f3f85f4ca36f93dc813ea579e8d69d359686567160318c896e", checked := Tryd.checked }
namespace Rows
def none {H : Type} : Left H := { results := [], args := [] }

/- WHAT THE LISTED PACKAGE-LEVEL VARIABLES READ AS WHEN THE CALL BEGINS. Each datum BY PROGRAM (the guide's laid-datum.mjs) off the statement by which the dump's own 'gosem.cut.vars' lays the variable. In a bare row this is a premise. The card (YtbmcplnfamgpcaaDoorCards.lean) ties it to the program's text. -/
def laid_math_bits_deBruijn32tab {H : Type} : DataW H := .agg [.lit (.int .u8 0), .lit (.int .u8 1), .lit (.int .u8 28), .lit (.int .u8 2), .lit (.int .u8 29), .lit (.int .u8 14), .lit (.int .u8 24), .lit (.int .u8 3), .lit (.int .u8 30), .lit (.int .u8 22), .lit (.int .u8 20), .lit (.int .u8 15), .lit (.int .u8 25), .lit (.int .u8 17), .lit (.int .u8 4), .lit (.int .u8 8), .lit (.int .u8 31), .lit (.int .u8 27), .lit (.int .u8 13), .lit (.int .u8 23), .lit (.int .u8 21), .lit (.int .u8 19), .lit (.int .u8 16), .lit (.int .u8 7), .lit (.int .u8 26), .lit (.int .u8 12), .lit (.int .u8 18), .lit (.int .u8 6), .lit (.int .u8 11), .lit (.int .u8 5), .lit (.int .u8 10), .lit (.int .u8 9)]
def laid_math_bits_deBruijn64tab {H : Type} : DataW H := .agg [.lit (.int .u8 0), .lit (.int .u8 1), .lit (.int .u8 56), .lit (.int .u8 2), .lit (.int .u8 57), .lit (.int .u8 49), .lit (.int .u8 28), .lit (.int .u8 3), .lit (.int .u8 61), .lit (.int .u8 58), .lit (.int .u8 42), .lit (.int .u8 50), .lit (.int .u8 38), .lit (.int .u8 29), .lit (.int .u8 17), .lit (.int .u8 4), .lit (.int .u8 62), .lit (.int .u8 47), .lit (.int .u8 59), .lit (.int .u8 36), .lit (.int .u8 45), .lit (.int .u8 43), .lit (.int .u8 51), .lit (.int .u8 22), .lit (.int .u8 53), .lit (.int .u8 39), .lit (.int .u8 33), .lit (.int .u8 30), .lit (.int .u8 24), .lit (.int .u8 18), .lit (.int .u8 12), .lit (.int .u8 5), .lit (.int .u8 63), .lit (.int .u8 55), .lit (.int .u8 48), .lit (.int .u8 27), .lit (.int .u8 60), .lit (.int .u8 41), .lit (.int .u8 37), .lit (.int .u8 16), .lit (.int .u8 46), .lit (.int .u8 35), .lit (.int .u8 44), .lit (.int .u8 21), .lit (.int .u8 52), .lit (.int .u8 32), .lit (.int .u8 23), .lit (.int .u8 11), .lit (.int .u8 54), .lit (.int .u8 26), .lit (.int .u8 40), .lit (.int .u8 15), .lit (.int .u8 34), .lit (.int .u8 20), .lit (.int .u8 31), .lit (.int .u8 10), .lit (.int .u8 25), .lit (.int .u8 14), .lit (.int .u8 19), .lit (.int .u8 9), .lit (.int .u8 13), .lit (.int .u8 8), .lit (.int .u8 7), .lit (.int .u8 6)]
def laid_internal_strconv_uint64pow10 {H : Type} : DataW H := .agg [.lit (.int .u64 1), .lit (.int .u64 10), .lit (.int .u64 100), .lit (.int .u64 1000), .lit (.int .u64 10000), .lit (.int .u64 100000), .lit (.int .u64 1000000), .lit (.int .u64 10000000), .lit (.int .u64 100000000), .lit (.int .u64 1000000000), .lit (.int .u64 10000000000), .lit (.int .u64 100000000000), .lit (.int .u64 1000000000000), .lit (.int .u64 10000000000000), .lit (.int .u64 100000000000000), .lit (.int .u64 1000000000000000), .lit (.int .u64 10000000000000000), .lit (.int .u64 100000000000000000), .lit (.int .u64 1000000000000000000), .lit (.int .u64 10000000000000000000)]
def laid_strconv_ErrRange {H : Type} : DataW H := .iface "*errors.errorString" (.ptr (.agg [.lit (.string [118, 97, 108, 117, 101, 32, 111, 117, 116, 32, 111, 102, 32, 114, 97, 110, 103, 101])]))
def laid_strconv_ErrSyntax {H : Type} : DataW H := .iface "*errors.errorString" (.ptr (.agg [.lit (.string [105, 110, 118, 97, 108, 105, 100, 32, 115, 121, 110, 116, 97, 120])]))
def laid_rollbook_date_lengths {H : Type} : DataW H := .agg [.lit (.int .i64 0), .lit (.int .i64 31), .lit (.int .i64 28), .lit (.int .i64 31), .lit (.int .i64 30), .lit (.int .i64 31), .lit (.int .i64 30), .lit (.int .i64 31), .lit (.int .i64 31), .lit (.int .i64 30), .lit (.int .i64 31), .lit (.int .i64 30), .lit (.int .i64 31)]

/-- 'rollbooklaw12.LexerTokens': WHATEVER THE INPUT: true; the input reads as it did. -/
def lexerTokensSpec : ChangeSpec := { name := "lexerTokens", fn := fun _ => fun
  | [d] => { results := [.lit (.bool true)], args := [d] }
  | _ => none }
def lexerTokensRow : OpenClaim := { program := "ytbmcplnfamgpcaadoor", sum := "110f9b25a33958f3f85f4ca36f93dc813ea579e8d69d359686567160318c896e", func := "rollbook/rollbooklaw12.LexerTokens", spec := "lexerTokens", inPlace := ["internal/bytealg.IndexByteString", "internal/bytealg.IndexString", "internal/abi.NoEscape", "internal/bytealg.MakeNoZero"], unfollowed := true, recurses := true, named := ["strconv.ErrSyntax", "strconv.ErrRange", "internal/strconv.uint64pow10", "math/bits.deBruijn32tab", "math/bits.deBruijn64tab", "rollbook/date.lengths", "internal/bytealg.MaxLen"], apart := false, laid := [("math/bits.deBruijn32tab", laid_math_bits_deBruijn32tab), ("math/bits.deBruijn64tab", laid_math_bits_deBruijn64tab), ("internal/strconv.uint64pow10", laid_internal_strconv_uint64pow10), ("strconv.ErrRange", laid_strconv_ErrRange), ("strconv.ErrSyntax", laid_strconv_ErrSyntax), ("rollbook/date.lengths", laid_rollbook_date_lengths)] }
def LexerTokensSaid : Prop := lexerTokensRow.holds Tryd.pinned (OpenSpec.ofChange lexerTokensSpec)

/-- ITS FALSE NEIGHBOUR: 'it returns false'. Refute it at one input. -/
def lexerTokensWrong : ChangeSpec := { name := "lexerTokens", fn := fun _ => fun
  | [d] => { results := [.lit (.bool false)], args := [d] }
  | _ => none }
def LexerTokensWrongFalsely : Prop := lexerTokensRow.holds Tryd.pinned (OpenSpec.ofChange lexerTokensWrong)

/-- 'rollbooklaw12.LexerLimits': WHATEVER THE INPUT: true; the input reads as it did. -/
def lexerLimitsSpec : ChangeSpec := { name := "lexerLimits", fn := fun _ => fun
  | [d1, d2] => { results := [.lit (.bool true)], args := [d1, d2] }
  | _ => none }
def lexerLimitsRow : OpenClaim := { program := "ytbmcplnfamgpcaadoor", sum := "110f9b25a33958f3f85f4ca36f93dc813ea579e8d69d359686567160318c896e", func := "rollbook/rollbooklaw12.LexerLimits", spec := "lexerLimits", inPlace := ["internal/bytealg.IndexByteString", "internal/bytealg.IndexString", "internal/abi.NoEscape", "internal/bytealg.MakeNoZero"], unfollowed := true, recurses := true, named := ["strconv.ErrSyntax", "strconv.ErrRange", "internal/strconv.uint64pow10", "math/bits.deBruijn32tab", "math/bits.deBruijn64tab", "rollbook/date.lengths", "internal/bytealg.MaxLen"], apart := false, laid := [("math/bits.deBruijn32tab", laid_math_bits_deBruijn32tab), ("math/bits.deBruijn64tab", laid_math_bits_deBruijn64tab), ("internal/strconv.uint64pow10", laid_internal_strconv_uint64pow10), ("strconv.ErrRange", laid_strconv_ErrRange), ("strconv.ErrSyntax", laid_strconv_ErrSyntax), ("rollbook/date.lengths", laid_rollbook_date_lengths)] }
def LexerLimitsSaid : Prop := lexerLimitsRow.holds Tryd.pinned (OpenSpec.ofChange lexerLimitsSpec)

/-- ITS FALSE NEIGHBOUR: 'it returns false'. Refute it at one input. -/
def lexerLimitsWrong : ChangeSpec := { name := "lexerLimits", fn := fun _ => fun
  | [d1, d2] => { results := [.lit (.bool false)], args := [d1, d2] }
  | _ => none }
def LexerLimitsWrongFalsely : Prop := lexerLimitsRow.holds Tryd.pinned (OpenSpec.ofChange lexerLimitsWrong)

/-- 'rollbooklaw12.LexerShows': WHATEVER THE INPUT: true; the input reads as it did. -/
def lexerShowsSpec : ChangeSpec := { name := "lexerShows", fn := fun _ => fun
  | [d] => { results := [.lit (.bool true)], args := [d] }
  | _ => none }
def lexerShowsRow : OpenClaim := { program := "ytbmcplnfamgpcaadoor", sum := "110f9b25a33958f3f85f4ca36f93dc813ea579e8d69d359686567160318c896e", func := "rollbook/rollbooklaw12.LexerShows", spec := "lexerShows", inPlace := ["internal/abi.NoEscape", "internal/bytealg.MakeNoZero", "internal/bytealg.IndexByteString", "internal/bytealg.IndexString"], unfollowed := true, recurses := true, named := ["strconv.ErrSyntax", "strconv.ErrRange", "internal/strconv.uint64pow10", "math/bits.deBruijn32tab", "math/bits.deBruijn64tab", "rollbook/date.lengths", "internal/bytealg.MaxLen"], apart := false, laid := [("math/bits.deBruijn32tab", laid_math_bits_deBruijn32tab), ("math/bits.deBruijn64tab", laid_math_bits_deBruijn64tab), ("internal/strconv.uint64pow10", laid_internal_strconv_uint64pow10), ("strconv.ErrRange", laid_strconv_ErrRange), ("strconv.ErrSyntax", laid_strconv_ErrSyntax), ("rollbook/date.lengths", laid_rollbook_date_lengths)] }
def LexerShowsSaid : Prop := lexerShowsRow.holds Tryd.pinned (OpenSpec.ofChange lexerShowsSpec)

/-- ITS FALSE NEIGHBOUR: 'it returns false'. Refute it at one input. -/
def lexerShowsWrong : ChangeSpec := { name := "lexerShows", fn := fun _ => fun
  | [d] => { results := [.lit (.bool false)], args := [d] }
  | _ => none }
def LexerShowsWrongFalsely : Prop := lexerShowsRow.holds Tryd.pinned (OpenSpec.ofChange lexerShowsWrong)

/-- 'rollbooklaw12.LexerRound': WHATEVER THE INPUT: true; the input reads as it did. -/
def lexerRoundSpec : ChangeSpec := { name := "lexerRound", fn := fun _ => fun
  | [d] => { results := [.lit (.bool true)], args := [d] }
  | _ => none }
def lexerRoundRow : OpenClaim := { program := "ytbmcplnfamgpcaadoor", sum := "110f9b25a33958f3f85f4ca36f93dc813ea579e8d69d359686567160318c896e", func := "rollbook/rollbooklaw12.LexerRound", spec := "lexerRound", inPlace := ["internal/bytealg.IndexByteString", "internal/bytealg.IndexString", "internal/abi.NoEscape", "internal/bytealg.MakeNoZero"], unfollowed := true, recurses := true, named := ["strconv.ErrSyntax", "strconv.ErrRange", "internal/strconv.uint64pow10", "math/bits.deBruijn32tab", "math/bits.deBruijn64tab", "rollbook/date.lengths", "internal/bytealg.MaxLen"], apart := false, laid := [("math/bits.deBruijn32tab", laid_math_bits_deBruijn32tab), ("math/bits.deBruijn64tab", laid_math_bits_deBruijn64tab), ("internal/strconv.uint64pow10", laid_internal_strconv_uint64pow10), ("strconv.ErrRange", laid_strconv_ErrRange), ("strconv.ErrSyntax", laid_strconv_ErrSyntax), ("rollbook/date.lengths", laid_rollbook_date_lengths)] }
def LexerRoundSaid : Prop := lexerRoundRow.holds Tryd.pinned (OpenSpec.ofChange lexerRoundSpec)

/-- ITS FALSE NEIGHBOUR: 'it returns false'. Refute it at one input. -/
def lexerRoundWrong : ChangeSpec := { name := "lexerRound", fn := fun _ => fun
  | [d] => { results := [.lit (.bool false)], args := [d] }
  | _ => none }
def LexerRoundWrongFalsely : Prop := lexerRoundRow.holds Tryd.pinned (OpenSpec.ofChange lexerRoundWrong)

/-- 'rollbooklaw12.LexerCovers': WHATEVER THE INPUT: true; the input reads as it did. -/
def lexerCoversSpec : ChangeSpec := { name := "lexerCovers", fn := fun _ => fun
  | [d] => { results := [.lit (.bool true)], args := [d] }
  | _ => none }
def lexerCoversRow : OpenClaim := { program := "ytbmcplnfamgpcaadoor", sum := "110f9b25a33958f3f85f4ca36f93dc813ea579e8d69d359686567160318c896e", func := "rollbook/rollbooklaw12.LexerCovers", spec := "lexerCovers", inPlace := ["internal/bytealg.IndexByteString", "internal/bytealg.IndexString", "internal/abi.NoEscape", "internal/bytealg.MakeNoZero"], unfollowed := true, recurses := true, named := ["strconv.ErrSyntax", "strconv.ErrRange", "internal/strconv.uint64pow10", "math/bits.deBruijn32tab", "math/bits.deBruijn64tab", "rollbook/date.lengths", "internal/bytealg.MaxLen"], apart := false, laid := [("math/bits.deBruijn32tab", laid_math_bits_deBruijn32tab), ("math/bits.deBruijn64tab", laid_math_bits_deBruijn64tab), ("internal/strconv.uint64pow10", laid_internal_strconv_uint64pow10), ("strconv.ErrRange", laid_strconv_ErrRange), ("strconv.ErrSyntax", laid_strconv_ErrSyntax), ("rollbook/date.lengths", laid_rollbook_date_lengths)] }
def LexerCoversSaid : Prop := lexerCoversRow.holds Tryd.pinned (OpenSpec.ofChange lexerCoversSpec)

/-- ITS FALSE NEIGHBOUR: 'it returns false'. Refute it at one input. -/
def lexerCoversWrong : ChangeSpec := { name := "lexerCovers", fn := fun _ => fun
  | [d] => { results := [.lit (.bool false)], args := [d] }
  | _ => none }
def LexerCoversWrongFalsely : Prop := lexerCoversRow.holds Tryd.pinned (OpenSpec.ofChange lexerCoversWrong)

/-- 'rollbooklaw12.LexerFirst': WHATEVER THE INPUT: true; the input reads as it did. -/
def lexerFirstSpec : ChangeSpec := { name := "lexerFirst", fn := fun _ => fun
  | [d1, d2] => { results := [.lit (.bool true)], args := [d1, d2] }
  | _ => none }
def lexerFirstRow : OpenClaim := { program := "ytbmcplnfamgpcaadoor", sum := "110f9b25a33958f3f85f4ca36f93dc813ea579e8d69d359686567160318c896e", func := "rollbook/rollbooklaw12.LexerFirst", spec := "lexerFirst", inPlace := ["internal/bytealg.IndexByteString", "internal/bytealg.IndexString", "internal/abi.NoEscape", "internal/bytealg.MakeNoZero"], unfollowed := true, recurses := true, named := ["strconv.ErrSyntax", "strconv.ErrRange", "internal/strconv.uint64pow10", "math/bits.deBruijn32tab", "math/bits.deBruijn64tab", "rollbook/date.lengths", "internal/bytealg.MaxLen"], apart := false, laid := [("math/bits.deBruijn32tab", laid_math_bits_deBruijn32tab), ("math/bits.deBruijn64tab", laid_math_bits_deBruijn64tab), ("internal/strconv.uint64pow10", laid_internal_strconv_uint64pow10), ("strconv.ErrRange", laid_strconv_ErrRange), ("strconv.ErrSyntax", laid_strconv_ErrSyntax), ("rollbook/date.lengths", laid_rollbook_date_lengths)] }
def LexerFirstSaid : Prop := lexerFirstRow.holds Tryd.pinned (OpenSpec.ofChange lexerFirstSpec)

/-- ITS FALSE NEIGHBOUR: 'it returns false'. Refute it at one input. -/
def lexerFirstWrong : ChangeSpec := { name := "lexerFirst", fn := fun _ => fun
  | [d1, d2] => { results := [.lit (.bool false)], args := [d1, d2] }
  | _ => none }
def LexerFirstWrongFalsely : Prop := lexerFirstRow.holds Tryd.pinned (OpenSpec.ofChange lexerFirstWrong)

/-- 'rollbooklaw12.LexerSpaces': WHATEVER THE INPUT: true; the input reads as it did. -/
def lexerSpacesSpec : ChangeSpec := { name := "lexerSpaces", fn := fun _ => fun
  | [d1, d2] => { results := [.lit (.bool true)], args := [d1, d2] }
  | _ => none }
def lexerSpacesRow : OpenClaim := { program := "ytbmcplnfamgpcaadoor", sum := "110f9b25a33958f3f85f4ca36f93dc813ea579e8d69d359686567160318c896e", func := "rollbook/rollbooklaw12.LexerSpaces", spec := "lexerSpaces", inPlace := ["internal/bytealg.IndexByteString", "internal/bytealg.IndexString", "internal/abi.NoEscape", "internal/bytealg.MakeNoZero"], unfollowed := true, recurses := true, named := ["strconv.ErrSyntax", "strconv.ErrRange", "internal/strconv.uint64pow10", "math/bits.deBruijn32tab", "math/bits.deBruijn64tab", "rollbook/date.lengths", "internal/bytealg.MaxLen"], apart := false, laid := [("math/bits.deBruijn32tab", laid_math_bits_deBruijn32tab), ("math/bits.deBruijn64tab", laid_math_bits_deBruijn64tab), ("internal/strconv.uint64pow10", laid_internal_strconv_uint64pow10), ("strconv.ErrRange", laid_strconv_ErrRange), ("strconv.ErrSyntax", laid_strconv_ErrSyntax), ("rollbook/date.lengths", laid_rollbook_date_lengths)] }
def LexerSpacesSaid : Prop := lexerSpacesRow.holds Tryd.pinned (OpenSpec.ofChange lexerSpacesSpec)

/-- ITS FALSE NEIGHBOUR: 'it returns false'. Refute it at one input. -/
def lexerSpacesWrong : ChangeSpec := { name := "lexerSpaces", fn := fun _ => fun
  | [d1, d2] => { results := [.lit (.bool false)], args := [d1, d2] }
  | _ => none }
def LexerSpacesWrongFalsely : Prop := lexerSpacesRow.holds Tryd.pinned (OpenSpec.ofChange lexerSpacesWrong)

/-- 'rollbooklaw12.LexerConcat': WHATEVER THE INPUT: true; the input reads as it did. -/
def lexerConcatSpec : ChangeSpec := { name := "lexerConcat", fn := fun _ => fun
  | [d1, d2] => { results := [.lit (.bool true)], args := [d1, d2] }
  | _ => none }
def lexerConcatRow : OpenClaim := { program := "ytbmcplnfamgpcaadoor", sum := "110f9b25a33958f3f85f4ca36f93dc813ea579e8d69d359686567160318c896e", func := "rollbook/rollbooklaw12.LexerConcat", spec := "lexerConcat", inPlace := ["internal/bytealg.IndexByteString", "internal/bytealg.IndexString", "internal/abi.NoEscape", "internal/bytealg.MakeNoZero"], unfollowed := true, recurses := true, named := ["strconv.ErrSyntax", "strconv.ErrRange", "internal/strconv.uint64pow10", "math/bits.deBruijn32tab", "math/bits.deBruijn64tab", "rollbook/date.lengths", "internal/bytealg.MaxLen"], apart := false, laid := [("math/bits.deBruijn32tab", laid_math_bits_deBruijn32tab), ("math/bits.deBruijn64tab", laid_math_bits_deBruijn64tab), ("internal/strconv.uint64pow10", laid_internal_strconv_uint64pow10), ("strconv.ErrRange", laid_strconv_ErrRange), ("strconv.ErrSyntax", laid_strconv_ErrSyntax), ("rollbook/date.lengths", laid_rollbook_date_lengths)] }
def LexerConcatSaid : Prop := lexerConcatRow.holds Tryd.pinned (OpenSpec.ofChange lexerConcatSpec)

/-- ITS FALSE NEIGHBOUR: 'it returns false'. Refute it at one input. -/
def lexerConcatWrong : ChangeSpec := { name := "lexerConcat", fn := fun _ => fun
  | [d1, d2] => { results := [.lit (.bool false)], args := [d1, d2] }
  | _ => none }
def LexerConcatWrongFalsely : Prop := lexerConcatRow.holds Tryd.pinned (OpenSpec.ofChange lexerConcatWrong)

/-- 'rollbooklaw12.LexerLongest': WHATEVER THE INPUT: true; the input reads as it did. -/
def lexerLongestSpec : ChangeSpec := { name := "lexerLongest", fn := fun _ => fun
  | [d] => { results := [.lit (.bool true)], args := [d] }
  | _ => none }
def lexerLongestRow : OpenClaim := { program := "ytbmcplnfamgpcaadoor", sum := "110f9b25a33958f3f85f4ca36f93dc813ea579e8d69d359686567160318c896e", func := "rollbook/rollbooklaw12.LexerLongest", spec := "lexerLongest", inPlace := ["internal/bytealg.IndexByteString", "internal/bytealg.IndexString", "internal/abi.NoEscape", "internal/bytealg.MakeNoZero"], unfollowed := true, recurses := true, named := ["strconv.ErrSyntax", "strconv.ErrRange", "internal/strconv.uint64pow10", "math/bits.deBruijn32tab", "math/bits.deBruijn64tab", "rollbook/date.lengths", "internal/bytealg.MaxLen"], apart := false, laid := [("math/bits.deBruijn32tab", laid_math_bits_deBruijn32tab), ("math/bits.deBruijn64tab", laid_math_bits_deBruijn64tab), ("internal/strconv.uint64pow10", laid_internal_strconv_uint64pow10), ("strconv.ErrRange", laid_strconv_ErrRange), ("strconv.ErrSyntax", laid_strconv_ErrSyntax), ("rollbook/date.lengths", laid_rollbook_date_lengths)] }
def LexerLongestSaid : Prop := lexerLongestRow.holds Tryd.pinned (OpenSpec.ofChange lexerLongestSpec)

/-- ITS FALSE NEIGHBOUR: 'it returns false'. Refute it at one input. -/
def lexerLongestWrong : ChangeSpec := { name := "lexerLongest", fn := fun _ => fun
  | [d] => { results := [.lit (.bool false)], args := [d] }
  | _ => none }
def LexerLongestWrongFalsely : Prop := lexerLongestRow.holds Tryd.pinned (OpenSpec.ofChange lexerLongestWrong)

/-- 'rollbooklaw12.LexerNumbers': WHATEVER THE INPUT: true; the input reads as it did. -/
def lexerNumbersSpec : ChangeSpec := { name := "lexerNumbers", fn := fun _ => fun
  | [d1, d2] => { results := [.lit (.bool true)], args := [d1, d2] }
  | _ => none }
def lexerNumbersRow : OpenClaim := { program := "ytbmcplnfamgpcaadoor", sum := "110f9b25a33958f3f85f4ca36f93dc813ea579e8d69d359686567160318c896e", func := "rollbook/rollbooklaw12.LexerNumbers", spec := "lexerNumbers", inPlace := ["internal/bytealg.IndexByteString", "internal/bytealg.IndexString", "internal/abi.NoEscape", "internal/bytealg.MakeNoZero"], unfollowed := true, recurses := true, named := ["strconv.ErrSyntax", "strconv.ErrRange", "internal/strconv.uint64pow10", "math/bits.deBruijn32tab", "math/bits.deBruijn64tab", "rollbook/date.lengths", "internal/bytealg.MaxLen"], apart := false, laid := [("math/bits.deBruijn32tab", laid_math_bits_deBruijn32tab), ("math/bits.deBruijn64tab", laid_math_bits_deBruijn64tab), ("internal/strconv.uint64pow10", laid_internal_strconv_uint64pow10), ("strconv.ErrRange", laid_strconv_ErrRange), ("strconv.ErrSyntax", laid_strconv_ErrSyntax), ("rollbook/date.lengths", laid_rollbook_date_lengths)] }
def LexerNumbersSaid : Prop := lexerNumbersRow.holds Tryd.pinned (OpenSpec.ofChange lexerNumbersSpec)

/-- ITS FALSE NEIGHBOUR: 'it returns false'. Refute it at one input. -/
def lexerNumbersWrong : ChangeSpec := { name := "lexerNumbers", fn := fun _ => fun
  | [d1, d2] => { results := [.lit (.bool false)], args := [d1, d2] }
  | _ => none }
def LexerNumbersWrongFalsely : Prop := lexerNumbersRow.holds Tryd.pinned (OpenSpec.ofChange lexerNumbersWrong)

/- THE SECOND FORM. 'bulk': how many values and letters a reading holds, each counted each time it is reached (what is shared counts as often as it is met; a slice's spare places count too). A statement '..UptoSaid' is the law's where the arguments, and the package variables that the reading takes, are together of bulk at most 1048576: NARROWER than '..Said'. Prove '..Said' where nothing that the law and all that it calls make is longer than what came in: it says more and counts as full. Else prove '..UptoSaid'. A law counts once. -/
mutual
def uptoBulk {H : Type} : DataW H → Nat
  | .lit (.string bytes) => bytes.length + 1
  | .lit _ => 1
  | .nil => 1
  | .ptr d => uptoBulk d + 1
  | .slice elems spare => uptoBulkAll elems + uptoBulkAll spare + 1
  | .agg parts => uptoBulkAll parts + 1
  | .iface _ d => uptoBulk d + 1
  | .map entries => uptoBulkEntries entries + 1
  | .held _ => 1
def uptoBulkAll {H : Type} : List (DataW H) → Nat
  | [] => 0
  | d :: r => uptoBulk d + uptoBulkAll r
def uptoBulkEntries {H : Type} : List (Lit × DataW H) → Nat
  | [] => 0
  | x :: r => uptoBulkEntry x + uptoBulkEntries r
def uptoBulkEntry {H : Type} : Lit × DataW H → Nat
  | (.string bytes, d) => bytes.length + uptoBulk d + 1
  | (_, d) => uptoBulk d + 1
 end
def uptoSmall : (H : Type) → List (DataW H) → Bool := fun _ ds => decide (uptoBulkAll ds ≤ 1048576)
def OpenSpec.upto (s : _root_.Go.ChangeSpec) : _root_.Go.OpenSpec := { _root_.Go.OpenSpec.ofChange s with cond := some uptoSmall }

/-- 'rollbooklaw12.LexerTokens', WHERE WHAT IT READS IS OF BULK AT MOST 1048576: true; the input reads as it did. -/
def lexerTokensUptoRow : OpenClaim := { program := "ytbmcplnfamgpcaadoor", sum := "110f9b25a33958f3f85f4ca36f93dc813ea579e8d69d359686567160318c896e", func := "rollbook/rollbooklaw12.LexerTokens", spec := "lexerTokens", inPlace := ["internal/bytealg.IndexByteString", "internal/bytealg.IndexString", "internal/abi.NoEscape", "internal/bytealg.MakeNoZero"], unfollowed := true, recurses := true, named := ["strconv.ErrSyntax", "strconv.ErrRange", "internal/strconv.uint64pow10", "math/bits.deBruijn32tab", "math/bits.deBruijn64tab", "rollbook/date.lengths", "internal/bytealg.MaxLen"], apart := false, laid := [("math/bits.deBruijn32tab", laid_math_bits_deBruijn32tab), ("math/bits.deBruijn64tab", laid_math_bits_deBruijn64tab), ("internal/strconv.uint64pow10", laid_internal_strconv_uint64pow10), ("strconv.ErrRange", laid_strconv_ErrRange), ("strconv.ErrSyntax", laid_strconv_ErrSyntax), ("rollbook/date.lengths", laid_rollbook_date_lengths)], narrowed := true }
def LexerTokensUptoSaid : Prop := lexerTokensUptoRow.holds Tryd.pinned (OpenSpec.upto lexerTokensSpec)

/-- 'rollbooklaw12.LexerLimits', WHERE WHAT IT READS IS OF BULK AT MOST 1048576: true; the input reads as it did. -/
def lexerLimitsUptoRow : OpenClaim := { program := "ytbmcplnfamgpcaadoor", sum := "110f9b25a33958f3f85f4ca36f93dc813ea579e8d69d359686567160318c896e", func := "rollbook/rollbooklaw12.LexerLimits", spec := "lexerLimits", inPlace := ["internal/bytealg.IndexByteString", "internal/bytealg.IndexString", "internal/abi.NoEscape", "internal/bytealg.MakeNoZero"], unfollowed := true, recurses := true, named := ["strconv.ErrSyntax", "strconv.ErrRange", "internal/strconv.uint64pow10", "math/bits.deBruijn32tab", "math/bits.deBruijn64tab", "rollbook/date.lengths", "internal/bytealg.MaxLen"], apart := false, laid := [("math/bits.deBruijn32tab", laid_math_bits_deBruijn32tab), ("math/bits.deBruijn64tab", laid_math_bits_deBruijn64tab), ("internal/strconv.uint64pow10", laid_internal_strconv_uint64pow10), ("strconv.ErrRange", laid_strconv_ErrRange), ("strconv.ErrSyntax", laid_strconv_ErrSyntax), ("rollbook/date.lengths", laid_rollbook_date_lengths)], narrowed := true }
def LexerLimitsUptoSaid : Prop := lexerLimitsUptoRow.holds Tryd.pinned (OpenSpec.upto lexerLimitsSpec)

/-- 'rollbooklaw12.LexerShows', WHERE WHAT IT READS IS OF BULK AT MOST 1048576: true; the input reads as it did. -/
def lexerShowsUptoRow : OpenClaim := { program := "ytbmcplnfamgpcaadoor", sum := "110f9b25a33958f3f85f4ca36f93dc813ea579e8d69d359686567160318c896e", func := "rollbook/rollbooklaw12.LexerShows", spec := "lexerShows", inPlace := ["internal/abi.NoEscape", "internal/bytealg.MakeNoZero", "internal/bytealg.IndexByteString", "internal/bytealg.IndexString"], unfollowed := true, recurses := true, named := ["strconv.ErrSyntax", "strconv.ErrRange", "internal/strconv.uint64pow10", "math/bits.deBruijn32tab", "math/bits.deBruijn64tab", "rollbook/date.lengths", "internal/bytealg.MaxLen"], apart := false, laid := [("math/bits.deBruijn32tab", laid_math_bits_deBruijn32tab), ("math/bits.deBruijn64tab", laid_math_bits_deBruijn64tab), ("internal/strconv.uint64pow10", laid_internal_strconv_uint64pow10), ("strconv.ErrRange", laid_strconv_ErrRange), ("strconv.ErrSyntax", laid_strconv_ErrSyntax), ("rollbook/date.lengths", laid_rollbook_date_lengths)], narrowed := true }
def LexerShowsUptoSaid : Prop := lexerShowsUptoRow.holds Tryd.pinned (OpenSpec.upto lexerShowsSpec)

/-- 'rollbooklaw12.LexerRound', WHERE WHAT IT READS IS OF BULK AT MOST 1048576: true; the input reads as it did. -/
def lexerRoundUptoRow : OpenClaim := { program := "ytbmcplnfamgpcaadoor", sum := "110f9b25a33958f3f85f4ca36f93dc813ea579e8d69d359686567160318c896e", func := "rollbook/rollbooklaw12.LexerRound", spec := "lexerRound", inPlace := ["internal/bytealg.IndexByteString", "internal/bytealg.IndexString", "internal/abi.NoEscape", "internal/bytealg.MakeNoZero"], unfollowed := true, recurses := true, named := ["strconv.ErrSyntax", "strconv.ErrRange", "internal/strconv.uint64pow10", "math/bits.deBruijn32tab", "math/bits.deBruijn64tab", "rollbook/date.lengths", "internal/bytealg.MaxLen"], apart := false, laid := [("math/bits.deBruijn32tab", laid_math_bits_deBruijn32tab), ("math/bits.deBruijn64tab", laid_math_bits_deBruijn64tab), ("internal/strconv.uint64pow10", laid_internal_strconv_uint64pow10), ("strconv.ErrRange", laid_strconv_ErrRange), ("strconv.ErrSyntax", laid_strconv_ErrSyntax), ("rollbook/date.lengths", laid_rollbook_date_lengths)], narrowed := true }
def LexerRoundUptoSaid : Prop := lexerRoundUptoRow.holds Tryd.pinned (OpenSpec.upto lexerRoundSpec)

/-- 'rollbooklaw12.LexerCovers', WHERE WHAT IT READS IS OF BULK AT MOST 1048576: true; the input reads as it did. -/
def lexerCoversUptoRow : OpenClaim := { program := "ytbmcplnfamgpcaadoor", sum := "110f9b25a33958f3f85f4ca36f93dc813ea579e8d69d359686567160318c896e", func := "rollbook/rollbooklaw12.LexerCovers", spec := "lexerCovers", inPlace := ["internal/bytealg.IndexByteString", "internal/bytealg.IndexString", "internal/abi.NoEscape", "internal/bytealg.MakeNoZero"], unfollowed := true, recurses := true, named := ["strconv.ErrSyntax", "strconv.ErrRange", "internal/strconv.uint64pow10", "math/bits.deBruijn32tab", "math/bits.deBruijn64tab", "rollbook/date.lengths", "internal/bytealg.MaxLen"], apart := false, laid := [("math/bits.deBruijn32tab", laid_math_bits_deBruijn32tab), ("math/bits.deBruijn64tab", laid_math_bits_deBruijn64tab), ("internal/strconv.uint64pow10", laid_internal_strconv_uint64pow10), ("strconv.ErrRange", laid_strconv_ErrRange), ("strconv.ErrSyntax", laid_strconv_ErrSyntax), ("rollbook/date.lengths", laid_rollbook_date_lengths)], narrowed := true }
def LexerCoversUptoSaid : Prop := lexerCoversUptoRow.holds Tryd.pinned (OpenSpec.upto lexerCoversSpec)

/-- 'rollbooklaw12.LexerFirst', WHERE WHAT IT READS IS OF BULK AT MOST 1048576: true; the input reads as it did. -/
def lexerFirstUptoRow : OpenClaim := { program := "ytbmcplnfamgpcaadoor", sum := "110f9b25a33958f3f85f4ca36f93dc813ea579e8d69d359686567160318c896e", func := "rollbook/rollbooklaw12.LexerFirst", spec := "lexerFirst", inPlace := ["internal/bytealg.IndexByteString", "internal/bytealg.IndexString", "internal/abi.NoEscape", "internal/bytealg.MakeNoZero"], unfollowed := true, recurses := true, named := ["strconv.ErrSyntax", "strconv.ErrRange", "internal/strconv.uint64pow10", "math/bits.deBruijn32tab", "math/bits.deBruijn64tab", "rollbook/date.lengths", "internal/bytealg.MaxLen"], apart := false, laid := [("math/bits.deBruijn32tab", laid_math_bits_deBruijn32tab), ("math/bits.deBruijn64tab", laid_math_bits_deBruijn64tab), ("internal/strconv.uint64pow10", laid_internal_strconv_uint64pow10), ("strconv.ErrRange", laid_strconv_ErrRange), ("strconv.ErrSyntax", laid_strconv_ErrSyntax), ("rollbook/date.lengths", laid_rollbook_date_lengths)], narrowed := true }
def LexerFirstUptoSaid : Prop := lexerFirstUptoRow.holds Tryd.pinned (OpenSpec.upto lexerFirstSpec)

/-- 'rollbooklaw12.LexerSpaces', WHERE WHAT IT READS IS OF BULK AT MOST 1048576: true; the input reads as it did. -/
def lexerSpacesUptoRow : OpenClaim := { program := "ytbmcplnfamgpcaadoor", sum := "110f9b25a33958f3f85f4ca36f93dc813ea579e8d69d359686567160318c896e", func := "rollbook/rollbooklaw12.LexerSpaces", spec := "lexerSpaces", inPlace := ["internal/bytealg.IndexByteString", "internal/bytealg.IndexString", "internal/abi.NoEscape", "internal/bytealg.MakeNoZero"], unfollowed := true, recurses := true, named := ["strconv.ErrSyntax", "strconv.ErrRange", "internal/strconv.uint64pow10", "math/bits.deBruijn32tab", "math/bits.deBruijn64tab", "rollbook/date.lengths", "internal/bytealg.MaxLen"], apart := false, laid := [("math/bits.deBruijn32tab", laid_math_bits_deBruijn32tab), ("math/bits.deBruijn64tab", laid_math_bits_deBruijn64tab), ("internal/strconv.uint64pow10", laid_internal_strconv_uint64pow10), ("strconv.ErrRange", laid_strconv_ErrRange), ("strconv.ErrSyntax", laid_strconv_ErrSyntax), ("rollbook/date.lengths", laid_rollbook_date_lengths)], narrowed := true }
def LexerSpacesUptoSaid : Prop := lexerSpacesUptoRow.holds Tryd.pinned (OpenSpec.upto lexerSpacesSpec)

/-- 'rollbooklaw12.LexerConcat', WHERE WHAT IT READS IS OF BULK AT MOST 1048576: true; the input reads as it did. -/
def lexerConcatUptoRow : OpenClaim := { program := "ytbmcplnfamgpcaadoor", sum := "110f9b25a33958f3f85f4ca36f93dc813ea579e8d69d359686567160318c896e", func := "rollbook/rollbooklaw12.LexerConcat", spec := "lexerConcat", inPlace := ["internal/bytealg.IndexByteString", "internal/bytealg.IndexString", "internal/abi.NoEscape", "internal/bytealg.MakeNoZero"], unfollowed := true, recurses := true, named := ["strconv.ErrSyntax", "strconv.ErrRange", "internal/strconv.uint64pow10", "math/bits.deBruijn32tab", "math/bits.deBruijn64tab", "rollbook/date.lengths", "internal/bytealg.MaxLen"], apart := false, laid := [("math/bits.deBruijn32tab", laid_math_bits_deBruijn32tab), ("math/bits.deBruijn64tab", laid_math_bits_deBruijn64tab), ("internal/strconv.uint64pow10", laid_internal_strconv_uint64pow10), ("strconv.ErrRange", laid_strconv_ErrRange), ("strconv.ErrSyntax", laid_strconv_ErrSyntax), ("rollbook/date.lengths", laid_rollbook_date_lengths)], narrowed := true }
def LexerConcatUptoSaid : Prop := lexerConcatUptoRow.holds Tryd.pinned (OpenSpec.upto lexerConcatSpec)

/-- 'rollbooklaw12.LexerLongest', WHERE WHAT IT READS IS OF BULK AT MOST 1048576: true; the input reads as it did. -/
def lexerLongestUptoRow : OpenClaim := { program := "ytbmcplnfamgpcaadoor", sum := "110f9b25a33958f3f85f4ca36f93dc813ea579e8d69d359686567160318c896e", func := "rollbook/rollbooklaw12.LexerLongest", spec := "lexerLongest", inPlace := ["internal/bytealg.IndexByteString", "internal/bytealg.IndexString", "internal/abi.NoEscape", "internal/bytealg.MakeNoZero"], unfollowed := true, recurses := true, named := ["strconv.ErrSyntax", "strconv.ErrRange", "internal/strconv.uint64pow10", "math/bits.deBruijn32tab", "math/bits.deBruijn64tab", "rollbook/date.lengths", "internal/bytealg.MaxLen"], apart := false, laid := [("math/bits.deBruijn32tab", laid_math_bits_deBruijn32tab), ("math/bits.deBruijn64tab", laid_math_bits_deBruijn64tab), ("internal/strconv.uint64pow10", laid_internal_strconv_uint64pow10), ("strconv.ErrRange", laid_strconv_ErrRange), ("strconv.ErrSyntax", laid_strconv_ErrSyntax), ("rollbook/date.lengths", laid_rollbook_date_lengths)], narrowed := true }
def LexerLongestUptoSaid : Prop := lexerLongestUptoRow.holds Tryd.pinned (OpenSpec.upto lexerLongestSpec)

/-- 'rollbooklaw12.LexerNumbers', WHERE WHAT IT READS IS OF BULK AT MOST 1048576: true; the input reads as it did. -/
def lexerNumbersUptoRow : OpenClaim := { program := "ytbmcplnfamgpcaadoor", sum := "110f9b25a33958f3f85f4ca36f93dc813ea579e8d69d359686567160318c896e", func := "rollbook/rollbooklaw12.LexerNumbers", spec := "lexerNumbers", inPlace := ["internal/bytealg.IndexByteString", "internal/bytealg.IndexString", "internal/abi.NoEscape", "internal/bytealg.MakeNoZero"], unfollowed := true, recurses := true, named := ["strconv.ErrSyntax", "strconv.ErrRange", "internal/strconv.uint64pow10", "math/bits.deBruijn32tab", "math/bits.deBruijn64tab", "rollbook/date.lengths", "internal/bytealg.MaxLen"], apart := false, laid := [("math/bits.deBruijn32tab", laid_math_bits_deBruijn32tab), ("math/bits.deBruijn64tab", laid_math_bits_deBruijn64tab), ("internal/strconv.uint64pow10", laid_internal_strconv_uint64pow10), ("strconv.ErrRange", laid_strconv_ErrRange), ("strconv.ErrSyntax", laid_strconv_ErrSyntax), ("rollbook/date.lengths", laid_rollbook_date_lengths)], narrowed := true }
def LexerNumbersUptoSaid : Prop := lexerNumbersUptoRow.holds Tryd.pinned (OpenSpec.upto lexerNumbersSpec)

end Rows
end Go.Proofs.YtbmcplnfamgpcaaDoor
