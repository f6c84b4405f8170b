/-
  NARROWER THAN 'FOR EVERY INPUT', by the rows' own cells (each row's printed sentence says how): IndexItems: laid · IndexMerges: laid · IndexSeals: laid · IndexHidden: laid · IndexUnion: laid · IndexComplete: laid · IndexFrozen: laid · CiteFind: laid · CiteOf: laid · CiteFrozen: laid · CiteLeads: laid · CiteKeeps: laid · IndexPlaces: laid.
  DERIVED. THE GIVEN ROWS OF THIS SEAT. 13 by the template 'for every input the law returns true; each argument reads behind the call as it read before'; 0 by the template 'total and deterministic' (their statements: YtdbnddmncbjobaaGreatDoorTotals.lean).
  GIVEN WITH THE SEED: the statements are not yours to turn. If you find one false, say at which input.
  Laid BY PROGRAM, IN A SANDBOX (cutbox-rows.mjs): the forced cells as the released guide's own fill.sh prints them over the translation cb8e6c61e58b5071… (all of the seat's roots in one cut). By AI agents, Wed Nov 11 2026. No macro, syntax, notation, axiom, sorry.
-/
import Derived.Test.YtdbnddmncbjobaaGreatDoorChecked
import GoSem.Claim
import GoSem.ClaimJoined
import GoSem.ClaimMapViews
import Derived.JoinedTies
import Derived.KernelRfl
namespace Go.Proofs.YtdbnddmncbjobaaGreatDoor
/- THE CELL 'sum', in the pinned program and in every row, IS THE sha256 OF THE DUMP (.gsa) THAT YtdbnddmncbjobaaGreatDoorProg.lean LOADS. Nothing in Lean hashes anything: it is a label: what it is worth is what the hold of that sum in a sandbox is worth. -/
noncomputable def Tryz.pinned : Pinned := { name := "ytdbnddmncbjobaagreatdoor", sum := "cb8e6c61e58b5071a15d85cf1e248c814066e56ec8cde61b8ce0b472e56a0732", checked := Tryz.checked }
namespace Rows
def none {H : Type} : Left H := { results := [], args := [] }

/- WHAT THE LISTED PACKAGE-LEVEL VARIABLES READ AS WHEN THE CALL BEGINS. Each datum BY PROGRAM (the guide's laid-datum.mjs) off the statement by which the dump's own 'gosem.cut.vars' lays the variable. In a bare row this is a premise. The card (YtdbnddmncbjobaaGreatDoorCards.lean) ties it to the program's text. -/
def laid_rollbook_glyph_widths {H : Type} : DataW H := .agg [.lit (.int .u8 4), .lit (.int .u8 6), .lit (.int .u8 8), .lit (.int .u8 8), .lit (.int .u8 12), .lit (.int .u8 10), .lit (.int .u8 4), .lit (.int .u8 6), .lit (.int .u8 6), .lit (.int .u8 8), .lit (.int .u8 8), .lit (.int .u8 4), .lit (.int .u8 6), .lit (.int .u8 4), .lit (.int .u8 6), .lit (.int .u8 8), .lit (.int .u8 8), .lit (.int .u8 8), .lit (.int .u8 8), .lit (.int .u8 8), .lit (.int .u8 8), .lit (.int .u8 8), .lit (.int .u8 8), .lit (.int .u8 8), .lit (.int .u8 8), .lit (.int .u8 4), .lit (.int .u8 4), .lit (.int .u8 8), .lit (.int .u8 8), .lit (.int .u8 8), .lit (.int .u8 8), .lit (.int .u8 12), .lit (.int .u8 10), .lit (.int .u8 10), .lit (.int .u8 10), .lit (.int .u8 10), .lit (.int .u8 10), .lit (.int .u8 10), .lit (.int .u8 10), .lit (.int .u8 10), .lit (.int .u8 6), .lit (.int .u8 10), .lit (.int .u8 10), .lit (.int .u8 10), .lit (.int .u8 12), .lit (.int .u8 10), .lit (.int .u8 10), .lit (.int .u8 10), .lit (.int .u8 10), .lit (.int .u8 10), .lit (.int .u8 10), .lit (.int .u8 10), .lit (.int .u8 10), .lit (.int .u8 10), .lit (.int .u8 12), .lit (.int .u8 10), .lit (.int .u8 10), .lit (.int .u8 10), .lit (.int .u8 0), .lit (.int .u8 6), .lit (.int .u8 0), .lit (.int .u8 8), .lit (.int .u8 8), .lit (.int .u8 4), .lit (.int .u8 8), .lit (.int .u8 8), .lit (.int .u8 8), .lit (.int .u8 8), .lit (.int .u8 8), .lit (.int .u8 6), .lit (.int .u8 8), .lit (.int .u8 8), .lit (.int .u8 4), .lit (.int .u8 4), .lit (.int .u8 8), .lit (.int .u8 4), .lit (.int .u8 12), .lit (.int .u8 8), .lit (.int .u8 8), .lit (.int .u8 8), .lit (.int .u8 8), .lit (.int .u8 6), .lit (.int .u8 8), .lit (.int .u8 6), .lit (.int .u8 8), .lit (.int .u8 8), .lit (.int .u8 12), .lit (.int .u8 8), .lit (.int .u8 8), .lit (.int .u8 8), .lit (.int .u8 6), .lit (.int .u8 4), .lit (.int .u8 6), .lit (.int .u8 8)]
def laid_math_bits_deBruijn32tab {H : Type} : DataW H := .agg [.lit (.int .u8 0), .lit (.int .u8 1), .lit (.int .u8 28), .lit (.int .u8 2), .lit (.int .u8 29), .lit (.int .u8 14), .lit (.int .u8 24), .lit (.int .u8 3), .lit (.int .u8 30), .lit (.int .u8 22), .lit (.int .u8 20), .lit (.int .u8 15), .lit (.int .u8 25), .lit (.int .u8 17), .lit (.int .u8 4), .lit (.int .u8 8), .lit (.int .u8 31), .lit (.int .u8 27), .lit (.int .u8 13), .lit (.int .u8 23), .lit (.int .u8 21), .lit (.int .u8 19), .lit (.int .u8 16), .lit (.int .u8 7), .lit (.int .u8 26), .lit (.int .u8 12), .lit (.int .u8 18), .lit (.int .u8 6), .lit (.int .u8 11), .lit (.int .u8 5), .lit (.int .u8 10), .lit (.int .u8 9)]
def laid_math_bits_deBruijn64tab {H : Type} : DataW H := .agg [.lit (.int .u8 0), .lit (.int .u8 1), .lit (.int .u8 56), .lit (.int .u8 2), .lit (.int .u8 57), .lit (.int .u8 49), .lit (.int .u8 28), .lit (.int .u8 3), .lit (.int .u8 61), .lit (.int .u8 58), .lit (.int .u8 42), .lit (.int .u8 50), .lit (.int .u8 38), .lit (.int .u8 29), .lit (.int .u8 17), .lit (.int .u8 4), .lit (.int .u8 62), .lit (.int .u8 47), .lit (.int .u8 59), .lit (.int .u8 36), .lit (.int .u8 45), .lit (.int .u8 43), .lit (.int .u8 51), .lit (.int .u8 22), .lit (.int .u8 53), .lit (.int .u8 39), .lit (.int .u8 33), .lit (.int .u8 30), .lit (.int .u8 24), .lit (.int .u8 18), .lit (.int .u8 12), .lit (.int .u8 5), .lit (.int .u8 63), .lit (.int .u8 55), .lit (.int .u8 48), .lit (.int .u8 27), .lit (.int .u8 60), .lit (.int .u8 41), .lit (.int .u8 37), .lit (.int .u8 16), .lit (.int .u8 46), .lit (.int .u8 35), .lit (.int .u8 44), .lit (.int .u8 21), .lit (.int .u8 52), .lit (.int .u8 32), .lit (.int .u8 23), .lit (.int .u8 11), .lit (.int .u8 54), .lit (.int .u8 26), .lit (.int .u8 40), .lit (.int .u8 15), .lit (.int .u8 34), .lit (.int .u8 20), .lit (.int .u8 31), .lit (.int .u8 10), .lit (.int .u8 25), .lit (.int .u8 14), .lit (.int .u8 19), .lit (.int .u8 9), .lit (.int .u8 13), .lit (.int .u8 8), .lit (.int .u8 7), .lit (.int .u8 6)]
def laid_internal_strconv_uint64pow10 {H : Type} : DataW H := .agg [.lit (.int .u64 1), .lit (.int .u64 10), .lit (.int .u64 100), .lit (.int .u64 1000), .lit (.int .u64 10000), .lit (.int .u64 100000), .lit (.int .u64 1000000), .lit (.int .u64 10000000), .lit (.int .u64 100000000), .lit (.int .u64 1000000000), .lit (.int .u64 10000000000), .lit (.int .u64 100000000000), .lit (.int .u64 1000000000000), .lit (.int .u64 10000000000000), .lit (.int .u64 100000000000000), .lit (.int .u64 1000000000000000), .lit (.int .u64 10000000000000000), .lit (.int .u64 100000000000000000), .lit (.int .u64 1000000000000000000), .lit (.int .u64 10000000000000000000)]
def laid_strconv_ErrRange {H : Type} : DataW H := .iface "*errors.errorString" (.ptr (.agg [.lit (.string [118, 97, 108, 117, 101, 32, 111, 117, 116, 32, 111, 102, 32, 114, 97, 110, 103, 101])]))
def laid_strconv_ErrSyntax {H : Type} : DataW H := .iface "*errors.errorString" (.ptr (.agg [.lit (.string [105, 110, 118, 97, 108, 105, 100, 32, 115, 121, 110, 116, 97, 120])]))

/-- 'rollbooklaw31.IndexItems': WHATEVER THE INPUT: true; the input reads as it did. -/
def indexItemsSpec : ChangeSpec := { name := "indexItems", fn := fun _ => fun
  | [d] => { results := [.lit (.bool true)], args := [d] }
  | _ => none }
def indexItemsRow : OpenClaim := { program := "ytdbnddmncbjobaagreatdoor", sum := "cb8e6c61e58b5071a15d85cf1e248c814066e56ec8cde61b8ce0b472e56a0732", func := "rollbook/rollbooklaw31.IndexItems", spec := "indexItems", inPlace := ["internal/bytealg.abigen_runtime_cmpstring"], unfollowed := true, recurses := true, named := ["rollbook/glyph.widths"], apart := false, laid := [("rollbook/glyph.widths", laid_rollbook_glyph_widths)] }
def IndexItemsSaid : Prop := indexItemsRow.holds Tryz.pinned (OpenSpec.ofChange indexItemsSpec)

/-- ITS FALSE NEIGHBOUR: 'it returns false'. Refute it at one input. -/
def indexItemsWrong : ChangeSpec := { name := "indexItems", fn := fun _ => fun
  | [d] => { results := [.lit (.bool false)], args := [d] }
  | _ => none }
def IndexItemsWrongFalsely : Prop := indexItemsRow.holds Tryz.pinned (OpenSpec.ofChange indexItemsWrong)

/-- 'rollbooklaw31.IndexMerges': WHATEVER THE INPUT: true; the input reads as it did. -/
def indexMergesSpec : ChangeSpec := { name := "indexMerges", fn := fun _ => fun
  | [d1, d2, d3] => { results := [.lit (.bool true)], args := [d1, d2, d3] }
  | _ => none }
def indexMergesRow : OpenClaim := { program := "ytdbnddmncbjobaagreatdoor", sum := "cb8e6c61e58b5071a15d85cf1e248c814066e56ec8cde61b8ce0b472e56a0732", func := "rollbook/rollbooklaw31.IndexMerges", spec := "indexMerges", inPlace := ["internal/bytealg.abigen_runtime_cmpstring"], unfollowed := true, recurses := true, named := ["rollbook/glyph.widths"], apart := false, laid := [("rollbook/glyph.widths", laid_rollbook_glyph_widths)] }
def IndexMergesSaid : Prop := indexMergesRow.holds Tryz.pinned (OpenSpec.ofChange indexMergesSpec)

/-- ITS FALSE NEIGHBOUR: 'it returns false'. Refute it at one input. -/
def indexMergesWrong : ChangeSpec := { name := "indexMerges", fn := fun _ => fun
  | [d1, d2, d3] => { results := [.lit (.bool false)], args := [d1, d2, d3] }
  | _ => none }
def IndexMergesWrongFalsely : Prop := indexMergesRow.holds Tryz.pinned (OpenSpec.ofChange indexMergesWrong)

/-- 'rollbooklaw31.IndexSeals': WHATEVER THE INPUT: true; the input reads as it did. -/
def indexSealsSpec : ChangeSpec := { name := "indexSeals", fn := fun _ => fun
  | [d1, d2] => { results := [.lit (.bool true)], args := [d1, d2] }
  | _ => none }
def indexSealsRow : OpenClaim := { program := "ytdbnddmncbjobaagreatdoor", sum := "cb8e6c61e58b5071a15d85cf1e248c814066e56ec8cde61b8ce0b472e56a0732", func := "rollbook/rollbooklaw31.IndexSeals", spec := "indexSeals", inPlace := ["internal/bytealg.abigen_runtime_cmpstring"], unfollowed := true, recurses := true, named := ["rollbook/glyph.widths"], apart := false, laid := [("rollbook/glyph.widths", laid_rollbook_glyph_widths)] }
def IndexSealsSaid : Prop := indexSealsRow.holds Tryz.pinned (OpenSpec.ofChange indexSealsSpec)

/-- ITS FALSE NEIGHBOUR: 'it returns false'. Refute it at one input. -/
def indexSealsWrong : ChangeSpec := { name := "indexSeals", fn := fun _ => fun
  | [d1, d2] => { results := [.lit (.bool false)], args := [d1, d2] }
  | _ => none }
def IndexSealsWrongFalsely : Prop := indexSealsRow.holds Tryz.pinned (OpenSpec.ofChange indexSealsWrong)

/-- 'rollbooklaw31.IndexHidden': WHATEVER THE INPUT: true; the input reads as it did. -/
def indexHiddenSpec : ChangeSpec := { name := "indexHidden", fn := fun _ => fun
  | [d1, d2] => { results := [.lit (.bool true)], args := [d1, d2] }
  | _ => none }
def indexHiddenRow : OpenClaim := { program := "ytdbnddmncbjobaagreatdoor", sum := "cb8e6c61e58b5071a15d85cf1e248c814066e56ec8cde61b8ce0b472e56a0732", func := "rollbook/rollbooklaw31.IndexHidden", spec := "indexHidden", inPlace := ["internal/bytealg.abigen_runtime_cmpstring"], unfollowed := true, recurses := true, named := ["rollbook/glyph.widths"], apart := false, laid := [("rollbook/glyph.widths", laid_rollbook_glyph_widths)] }
def IndexHiddenSaid : Prop := indexHiddenRow.holds Tryz.pinned (OpenSpec.ofChange indexHiddenSpec)

/-- ITS FALSE NEIGHBOUR: 'it returns false'. Refute it at one input. -/
def indexHiddenWrong : ChangeSpec := { name := "indexHidden", fn := fun _ => fun
  | [d1, d2] => { results := [.lit (.bool false)], args := [d1, d2] }
  | _ => none }
def IndexHiddenWrongFalsely : Prop := indexHiddenRow.holds Tryz.pinned (OpenSpec.ofChange indexHiddenWrong)

/-- 'rollbooklaw31.IndexUnion': WHATEVER THE INPUT: true; the input reads as it did. -/
def indexUnionSpec : ChangeSpec := { name := "indexUnion", fn := fun _ => fun
  | [d1, d2, d3, d4] => { results := [.lit (.bool true)], args := [d1, d2, d3, d4] }
  | _ => none }
def indexUnionRow : OpenClaim := { program := "ytdbnddmncbjobaagreatdoor", sum := "cb8e6c61e58b5071a15d85cf1e248c814066e56ec8cde61b8ce0b472e56a0732", func := "rollbook/rollbooklaw31.IndexUnion", spec := "indexUnion", inPlace := ["internal/bytealg.abigen_runtime_cmpstring"], unfollowed := true, recurses := true, named := ["rollbook/glyph.widths"], apart := false, laid := [("rollbook/glyph.widths", laid_rollbook_glyph_widths)] }
def IndexUnionSaid : Prop := indexUnionRow.holds Tryz.pinned (OpenSpec.ofChange indexUnionSpec)

/-- ITS FALSE NEIGHBOUR: 'it returns false'. Refute it at one input. -/
def indexUnionWrong : ChangeSpec := { name := "indexUnion", fn := fun _ => fun
  | [d1, d2, d3, d4] => { results := [.lit (.bool false)], args := [d1, d2, d3, d4] }
  | _ => none }
def IndexUnionWrongFalsely : Prop := indexUnionRow.holds Tryz.pinned (OpenSpec.ofChange indexUnionWrong)

/-- 'rollbooklaw31.IndexComplete': WHATEVER THE INPUT: true; the input reads as it did. -/
def indexCompleteSpec : ChangeSpec := { name := "indexComplete", fn := fun _ => fun
  | [d1, d2] => { results := [.lit (.bool true)], args := [d1, d2] }
  | _ => none }
def indexCompleteRow : OpenClaim := { program := "ytdbnddmncbjobaagreatdoor", sum := "cb8e6c61e58b5071a15d85cf1e248c814066e56ec8cde61b8ce0b472e56a0732", func := "rollbook/rollbooklaw31.IndexComplete", spec := "indexComplete", inPlace := ["internal/bytealg.abigen_runtime_cmpstring"], unfollowed := true, recurses := true, named := ["rollbook/glyph.widths"], apart := false, laid := [("rollbook/glyph.widths", laid_rollbook_glyph_widths)] }
def IndexCompleteSaid : Prop := indexCompleteRow.holds Tryz.pinned (OpenSpec.ofChange indexCompleteSpec)

/-- ITS FALSE NEIGHBOUR: 'it returns false'. Refute it at one input. -/
def indexCompleteWrong : ChangeSpec := { name := "indexComplete", fn := fun _ => fun
  | [d1, d2] => { results := [.lit (.bool false)], args := [d1, d2] }
  | _ => none }
def IndexCompleteWrongFalsely : Prop := indexCompleteRow.holds Tryz.pinned (OpenSpec.ofChange indexCompleteWrong)

/-- 'rollbooklaw31.IndexFrozen': WHATEVER THE INPUT: true; the input reads as it did. -/
def indexFrozenSpec : ChangeSpec := { name := "indexFrozen", fn := fun _ => fun
  | [d1, d2, d3] => { results := [.lit (.bool true)], args := [d1, d2, d3] }
  | _ => none }
def indexFrozenRow : OpenClaim := { program := "ytdbnddmncbjobaagreatdoor", sum := "cb8e6c61e58b5071a15d85cf1e248c814066e56ec8cde61b8ce0b472e56a0732", func := "rollbook/rollbooklaw31.IndexFrozen", spec := "indexFrozen", inPlace := ["internal/bytealg.abigen_runtime_cmpstring"], unfollowed := true, recurses := true, named := ["rollbook/glyph.widths"], apart := false, laid := [("rollbook/glyph.widths", laid_rollbook_glyph_widths)] }
def IndexFrozenSaid : Prop := indexFrozenRow.holds Tryz.pinned (OpenSpec.ofChange indexFrozenSpec)

/-- ITS FALSE NEIGHBOUR: 'it returns false'. Refute it at one input. -/
def indexFrozenWrong : ChangeSpec := { name := "indexFrozen", fn := fun _ => fun
  | [d1, d2, d3] => { results := [.lit (.bool false)], args := [d1, d2, d3] }
  | _ => none }
def IndexFrozenWrongFalsely : Prop := indexFrozenRow.holds Tryz.pinned (OpenSpec.ofChange indexFrozenWrong)

/-- 'rollbooklaw29.CiteFind': WHATEVER THE INPUT: true; the input reads as it did. -/
def citeFindSpec : ChangeSpec := { name := "citeFind", fn := fun _ => fun
  | [d1, d2, d3, d4, d5, d6] => { results := [.lit (.bool true)], args := [d1, d2, d3, d4, d5, d6] }
  | _ => none }
def citeFindRow : OpenClaim := { program := "ytdbnddmncbjobaagreatdoor", sum := "cb8e6c61e58b5071a15d85cf1e248c814066e56ec8cde61b8ce0b472e56a0732", func := "rollbook/rollbooklaw29.CiteFind", spec := "citeFind", inPlace := ["internal/bytealg.IndexByteString", "internal/bytealg.IndexString"], unfollowed := true, recurses := true, named := ["rollbook/glyph.widths", "internal/bytealg.MaxLen", "strconv.ErrSyntax", "strconv.ErrRange", "internal/strconv.uint64pow10", "math/bits.deBruijn32tab", "math/bits.deBruijn64tab"], apart := false, laid := [("math/bits.deBruijn32tab", laid_math_bits_deBruijn32tab), ("math/bits.deBruijn64tab", laid_math_bits_deBruijn64tab), ("internal/strconv.uint64pow10", laid_internal_strconv_uint64pow10), ("strconv.ErrRange", laid_strconv_ErrRange), ("strconv.ErrSyntax", laid_strconv_ErrSyntax), ("rollbook/glyph.widths", laid_rollbook_glyph_widths)] }
def CiteFindSaid : Prop := citeFindRow.holds Tryz.pinned (OpenSpec.ofChange citeFindSpec)

/-- ITS FALSE NEIGHBOUR: 'it returns false'. Refute it at one input. -/
def citeFindWrong : ChangeSpec := { name := "citeFind", fn := fun _ => fun
  | [d1, d2, d3, d4, d5, d6] => { results := [.lit (.bool false)], args := [d1, d2, d3, d4, d5, d6] }
  | _ => none }
def CiteFindWrongFalsely : Prop := citeFindRow.holds Tryz.pinned (OpenSpec.ofChange citeFindWrong)

/-- 'rollbooklaw29.CiteOf': WHATEVER THE INPUT: true; the input reads as it did. -/
def citeOfSpec : ChangeSpec := { name := "citeOf", fn := fun _ => fun
  | [d1, d2, d3, d4, d5] => { results := [.lit (.bool true)], args := [d1, d2, d3, d4, d5] }
  | _ => none }
def citeOfRow : OpenClaim := { program := "ytdbnddmncbjobaagreatdoor", sum := "cb8e6c61e58b5071a15d85cf1e248c814066e56ec8cde61b8ce0b472e56a0732", func := "rollbook/rollbooklaw29.CiteOf", spec := "citeOf", inPlace := ["internal/bytealg.IndexByteString", "internal/bytealg.IndexString"], unfollowed := true, recurses := true, named := ["rollbook/glyph.widths", "internal/bytealg.MaxLen", "strconv.ErrSyntax", "strconv.ErrRange", "internal/strconv.uint64pow10", "math/bits.deBruijn32tab", "math/bits.deBruijn64tab"], apart := false, laid := [("math/bits.deBruijn32tab", laid_math_bits_deBruijn32tab), ("math/bits.deBruijn64tab", laid_math_bits_deBruijn64tab), ("internal/strconv.uint64pow10", laid_internal_strconv_uint64pow10), ("strconv.ErrRange", laid_strconv_ErrRange), ("strconv.ErrSyntax", laid_strconv_ErrSyntax), ("rollbook/glyph.widths", laid_rollbook_glyph_widths)] }
def CiteOfSaid : Prop := citeOfRow.holds Tryz.pinned (OpenSpec.ofChange citeOfSpec)

/-- ITS FALSE NEIGHBOUR: 'it returns false'. Refute it at one input. -/
def citeOfWrong : ChangeSpec := { name := "citeOf", fn := fun _ => fun
  | [d1, d2, d3, d4, d5] => { results := [.lit (.bool false)], args := [d1, d2, d3, d4, d5] }
  | _ => none }
def CiteOfWrongFalsely : Prop := citeOfRow.holds Tryz.pinned (OpenSpec.ofChange citeOfWrong)

/-- 'rollbooklaw29.CiteFrozen': WHATEVER THE INPUT: true; the input reads as it did. -/
def citeFrozenSpec : ChangeSpec := { name := "citeFrozen", fn := fun _ => fun
  | [d1, d2, d3, d4] => { results := [.lit (.bool true)], args := [d1, d2, d3, d4] }
  | _ => none }
def citeFrozenRow : OpenClaim := { program := "ytdbnddmncbjobaagreatdoor", sum := "cb8e6c61e58b5071a15d85cf1e248c814066e56ec8cde61b8ce0b472e56a0732", func := "rollbook/rollbooklaw29.CiteFrozen", spec := "citeFrozen", inPlace := ["internal/bytealg.IndexByteString", "internal/bytealg.IndexString"], unfollowed := true, recurses := true, named := ["rollbook/glyph.widths", "internal/bytealg.MaxLen", "strconv.ErrSyntax", "strconv.ErrRange", "internal/strconv.uint64pow10", "math/bits.deBruijn32tab", "math/bits.deBruijn64tab"], apart := false, laid := [("math/bits.deBruijn32tab", laid_math_bits_deBruijn32tab), ("math/bits.deBruijn64tab", laid_math_bits_deBruijn64tab), ("internal/strconv.uint64pow10", laid_internal_strconv_uint64pow10), ("strconv.ErrRange", laid_strconv_ErrRange), ("strconv.ErrSyntax", laid_strconv_ErrSyntax), ("rollbook/glyph.widths", laid_rollbook_glyph_widths)] }
def CiteFrozenSaid : Prop := citeFrozenRow.holds Tryz.pinned (OpenSpec.ofChange citeFrozenSpec)

/-- ITS FALSE NEIGHBOUR: 'it returns false'. Refute it at one input. -/
def citeFrozenWrong : ChangeSpec := { name := "citeFrozen", fn := fun _ => fun
  | [d1, d2, d3, d4] => { results := [.lit (.bool false)], args := [d1, d2, d3, d4] }
  | _ => none }
def CiteFrozenWrongFalsely : Prop := citeFrozenRow.holds Tryz.pinned (OpenSpec.ofChange citeFrozenWrong)

/-- 'rollbooklaw29.CiteLeads': WHATEVER THE INPUT: true; the input reads as it did. -/
def citeLeadsSpec : ChangeSpec := { name := "citeLeads", fn := fun _ => fun
  | [d1, d2, d3, d4, d5] => { results := [.lit (.bool true)], args := [d1, d2, d3, d4, d5] }
  | _ => none }
def citeLeadsRow : OpenClaim := { program := "ytdbnddmncbjobaagreatdoor", sum := "cb8e6c61e58b5071a15d85cf1e248c814066e56ec8cde61b8ce0b472e56a0732", func := "rollbook/rollbooklaw29.CiteLeads", spec := "citeLeads", inPlace := ["internal/bytealg.IndexByteString", "internal/bytealg.IndexString"], unfollowed := true, recurses := true, named := ["rollbook/glyph.widths", "internal/bytealg.MaxLen", "strconv.ErrSyntax", "strconv.ErrRange", "internal/strconv.uint64pow10", "math/bits.deBruijn32tab", "math/bits.deBruijn64tab"], apart := false, laid := [("math/bits.deBruijn32tab", laid_math_bits_deBruijn32tab), ("math/bits.deBruijn64tab", laid_math_bits_deBruijn64tab), ("internal/strconv.uint64pow10", laid_internal_strconv_uint64pow10), ("strconv.ErrRange", laid_strconv_ErrRange), ("strconv.ErrSyntax", laid_strconv_ErrSyntax), ("rollbook/glyph.widths", laid_rollbook_glyph_widths)] }
def CiteLeadsSaid : Prop := citeLeadsRow.holds Tryz.pinned (OpenSpec.ofChange citeLeadsSpec)

/-- ITS FALSE NEIGHBOUR: 'it returns false'. Refute it at one input. -/
def citeLeadsWrong : ChangeSpec := { name := "citeLeads", fn := fun _ => fun
  | [d1, d2, d3, d4, d5] => { results := [.lit (.bool false)], args := [d1, d2, d3, d4, d5] }
  | _ => none }
def CiteLeadsWrongFalsely : Prop := citeLeadsRow.holds Tryz.pinned (OpenSpec.ofChange citeLeadsWrong)

/-- 'rollbooklaw29.CiteKeeps': WHATEVER THE INPUT: true; the input reads as it did. -/
def citeKeepsSpec : ChangeSpec := { name := "citeKeeps", fn := fun _ => fun
  | [d1, d2, d3, d4, d5, d6] => { results := [.lit (.bool true)], args := [d1, d2, d3, d4, d5, d6] }
  | _ => none }
def citeKeepsRow : OpenClaim := { program := "ytdbnddmncbjobaagreatdoor", sum := "cb8e6c61e58b5071a15d85cf1e248c814066e56ec8cde61b8ce0b472e56a0732", func := "rollbook/rollbooklaw29.CiteKeeps", spec := "citeKeeps", inPlace := ["internal/bytealg.IndexByteString", "internal/bytealg.IndexString"], unfollowed := true, recurses := true, named := ["rollbook/glyph.widths", "internal/bytealg.MaxLen", "strconv.ErrSyntax", "strconv.ErrRange", "internal/strconv.uint64pow10", "math/bits.deBruijn32tab", "math/bits.deBruijn64tab"], apart := false, laid := [("math/bits.deBruijn32tab", laid_math_bits_deBruijn32tab), ("math/bits.deBruijn64tab", laid_math_bits_deBruijn64tab), ("internal/strconv.uint64pow10", laid_internal_strconv_uint64pow10), ("strconv.ErrRange", laid_strconv_ErrRange), ("strconv.ErrSyntax", laid_strconv_ErrSyntax), ("rollbook/glyph.widths", laid_rollbook_glyph_widths)] }
def CiteKeepsSaid : Prop := citeKeepsRow.holds Tryz.pinned (OpenSpec.ofChange citeKeepsSpec)

/-- ITS FALSE NEIGHBOUR: 'it returns false'. Refute it at one input. -/
def citeKeepsWrong : ChangeSpec := { name := "citeKeeps", fn := fun _ => fun
  | [d1, d2, d3, d4, d5, d6] => { results := [.lit (.bool false)], args := [d1, d2, d3, d4, d5, d6] }
  | _ => none }
def CiteKeepsWrongFalsely : Prop := citeKeepsRow.holds Tryz.pinned (OpenSpec.ofChange citeKeepsWrong)

/-- 'rollbooklaw31.IndexPlaces': WHATEVER THE INPUT: true; the input reads as it did. -/
def indexPlacesSpec : ChangeSpec := { name := "indexPlaces", fn := fun _ => fun
  | [d] => { results := [.lit (.bool true)], args := [d] }
  | _ => none }
def indexPlacesRow : OpenClaim := { program := "ytdbnddmncbjobaagreatdoor", sum := "cb8e6c61e58b5071a15d85cf1e248c814066e56ec8cde61b8ce0b472e56a0732", func := "rollbook/rollbooklaw31.IndexPlaces", spec := "indexPlaces", inPlace := ["internal/bytealg.abigen_runtime_cmpstring", "internal/bytealg.IndexByteString", "internal/bytealg.IndexString"], unfollowed := true, recurses := true, named := ["rollbook/glyph.widths", "internal/strconv.uint64pow10", "math/bits.deBruijn32tab", "math/bits.deBruijn64tab", "internal/bytealg.MaxLen", "strconv.ErrSyntax", "strconv.ErrRange"], apart := false, laid := [("math/bits.deBruijn32tab", laid_math_bits_deBruijn32tab), ("math/bits.deBruijn64tab", laid_math_bits_deBruijn64tab), ("internal/strconv.uint64pow10", laid_internal_strconv_uint64pow10), ("strconv.ErrRange", laid_strconv_ErrRange), ("strconv.ErrSyntax", laid_strconv_ErrSyntax), ("rollbook/glyph.widths", laid_rollbook_glyph_widths)] }
def IndexPlacesSaid : Prop := indexPlacesRow.holds Tryz.pinned (OpenSpec.ofChange indexPlacesSpec)

/-- ITS FALSE NEIGHBOUR: 'it returns false'. Refute it at one input. -/
def indexPlacesWrong : ChangeSpec := { name := "indexPlaces", fn := fun _ => fun
  | [d] => { results := [.lit (.bool false)], args := [d] }
  | _ => none }
def IndexPlacesWrongFalsely : Prop := indexPlacesRow.holds Tryz.pinned (OpenSpec.ofChange indexPlacesWrong)

/- THE SECOND FORM. 'bulk': how many values and letters a reading holds, each counted each time it is reached (what is shared counts as often as it is met; a slice's spare places count too). A statement '..UptoSaid' is the law's where the arguments, and the package variables that the reading takes, are together of bulk at most 1048576: NARROWER than '..Said'. Prove '..Said' where nothing that the law and all that it calls make is longer than what came in: it says more and counts as full. Else prove '..UptoSaid'. A law counts once. -/
mutual
def uptoBulk {H : Type} : DataW H → Nat
  | .lit (.string bytes) => bytes.length + 1
  | .lit _ => 1
  | .nil => 1
  | .ptr d => uptoBulk d + 1
  | .slice elems spare => uptoBulkAll elems + uptoBulkAll spare + 1
  | .agg parts => uptoBulkAll parts + 1
  | .iface _ d => uptoBulk d + 1
  | .map entries => uptoBulkEntries entries + 1
  | .held _ => 1
def uptoBulkAll {H : Type} : List (DataW H) → Nat
  | [] => 0
  | d :: r => uptoBulk d + uptoBulkAll r
def uptoBulkEntries {H : Type} : List (Lit × DataW H) → Nat
  | [] => 0
  | x :: r => uptoBulkEntry x + uptoBulkEntries r
def uptoBulkEntry {H : Type} : Lit × DataW H → Nat
  | (.string bytes, d) => bytes.length + uptoBulk d + 1
  | (_, d) => uptoBulk d + 1
 end
def uptoSmall : (H : Type) → List (DataW H) → Bool := fun _ ds => decide (uptoBulkAll ds ≤ 1048576)
def OpenSpec.upto (s : _root_.Go.ChangeSpec) : _root_.Go.OpenSpec := { _root_.Go.OpenSpec.ofChange s with cond := some uptoSmall }

/-- 'rollbooklaw31.IndexItems', WHERE WHAT IT READS IS OF BULK AT MOST 1048576: true; the input reads as it did. -/
def indexItemsUptoRow : OpenClaim := { program := "ytdbnddmncbjobaagreatdoor", sum := "cb8e6c61e58b5071a15d85cf1e248c814066e56ec8cde61b8ce0b472e56a0732", func := "rollbook/rollbooklaw31.IndexItems", spec := "indexItems", inPlace := ["internal/bytealg.abigen_runtime_cmpstring"], unfollowed := true, recurses := true, named := ["rollbook/glyph.widths"], apart := false, laid := [("rollbook/glyph.widths", laid_rollbook_glyph_widths)], narrowed := true }
def IndexItemsUptoSaid : Prop := indexItemsUptoRow.holds Tryz.pinned (OpenSpec.upto indexItemsSpec)

/-- 'rollbooklaw31.IndexMerges', WHERE WHAT IT READS IS OF BULK AT MOST 1048576: true; the input reads as it did. -/
def indexMergesUptoRow : OpenClaim := { program := "ytdbnddmncbjobaagreatdoor", sum := "cb8e6c61e58b5071a15d85cf1e248c814066e56ec8cde61b8ce0b472e56a0732", func := "rollbook/rollbooklaw31.IndexMerges", spec := "indexMerges", inPlace := ["internal/bytealg.abigen_runtime_cmpstring"], unfollowed := true, recurses := true, named := ["rollbook/glyph.widths"], apart := false, laid := [("rollbook/glyph.widths", laid_rollbook_glyph_widths)], narrowed := true }
def IndexMergesUptoSaid : Prop := indexMergesUptoRow.holds Tryz.pinned (OpenSpec.upto indexMergesSpec)

/-- 'rollbooklaw31.IndexSeals', WHERE WHAT IT READS IS OF BULK AT MOST 1048576: true; the input reads as it did. -/
def indexSealsUptoRow : OpenClaim := { program := "ytdbnddmncbjobaagreatdoor", sum := "cb8e6c61e58b5071a15d85cf1e248c814066e56ec8cde61b8ce0b472e56a0732", func := "rollbook/rollbooklaw31.IndexSeals", spec := "indexSeals", inPlace := ["internal/bytealg.abigen_runtime_cmpstring"], unfollowed := true, recurses := true, named := ["rollbook/glyph.widths"], apart := false, laid := [("rollbook/glyph.widths", laid_rollbook_glyph_widths)], narrowed := true }
def IndexSealsUptoSaid : Prop := indexSealsUptoRow.holds Tryz.pinned (OpenSpec.upto indexSealsSpec)

/-- 'rollbooklaw31.IndexHidden', WHERE WHAT IT READS IS OF BULK AT MOST 1048576: true; the input reads as it did. -/
def indexHiddenUptoRow : OpenClaim := { program := "ytdbnddmncbjobaagreatdoor", sum := "cb8e6c61e58b5071a15d85cf1e248c814066e56ec8cde61b8ce0b472e56a0732", func := "rollbook/rollbooklaw31.IndexHidden", spec := "indexHidden", inPlace := ["internal/bytealg.abigen_runtime_cmpstring"], unfollowed := true, recurses := true, named := ["rollbook/glyph.widths"], apart := false, laid := [("rollbook/glyph.widths", laid_rollbook_glyph_widths)], narrowed := true }
def IndexHiddenUptoSaid : Prop := indexHiddenUptoRow.holds Tryz.pinned (OpenSpec.upto indexHiddenSpec)

/-- 'rollbooklaw31.IndexUnion', WHERE WHAT IT READS IS OF BULK AT MOST 1048576: true; the input reads as it did. -/
def indexUnionUptoRow : OpenClaim := { program := "ytdbnddmncbjobaagreatdoor", sum := "cb8e6c61e58b5071a15d85cf1e248c814066e56ec8cde61b8ce0b472e56a0732", func := "rollbook/rollbooklaw31.IndexUnion", spec := "indexUnion", inPlace := ["internal/bytealg.abigen_runtime_cmpstring"], unfollowed := true, recurses := true, named := ["rollbook/glyph.widths"], apart := false, laid := [("rollbook/glyph.widths", laid_rollbook_glyph_widths)], narrowed := true }
def IndexUnionUptoSaid : Prop := indexUnionUptoRow.holds Tryz.pinned (OpenSpec.upto indexUnionSpec)

/-- 'rollbooklaw31.IndexComplete', WHERE WHAT IT READS IS OF BULK AT MOST 1048576: true; the input reads as it did. -/
def indexCompleteUptoRow : OpenClaim := { program := "ytdbnddmncbjobaagreatdoor", sum := "cb8e6c61e58b5071a15d85cf1e248c814066e56ec8cde61b8ce0b472e56a0732", func := "rollbook/rollbooklaw31.IndexComplete", spec := "indexComplete", inPlace := ["internal/bytealg.abigen_runtime_cmpstring"], unfollowed := true, recurses := true, named := ["rollbook/glyph.widths"], apart := false, laid := [("rollbook/glyph.widths", laid_rollbook_glyph_widths)], narrowed := true }
def IndexCompleteUptoSaid : Prop := indexCompleteUptoRow.holds Tryz.pinned (OpenSpec.upto indexCompleteSpec)

/-- 'rollbooklaw31.IndexFrozen', WHERE WHAT IT READS IS OF BULK AT MOST 1048576: true; the input reads as it did. -/
def indexFrozenUptoRow : OpenClaim := { program := "ytdbnddmncbjobaagreatdoor", sum := "cb8e6c61e58b5071a15d85cf1e248c814066e56ec8cde61b8ce0b472e56a0732", func := "rollbook/rollbooklaw31.IndexFrozen", spec := "indexFrozen", inPlace := ["internal/bytealg.abigen_runtime_cmpstring"], unfollowed := true, recurses := true, named := ["rollbook/glyph.widths"], apart := false, laid := [("rollbook/glyph.widths", laid_rollbook_glyph_widths)], narrowed := true }
def IndexFrozenUptoSaid : Prop := indexFrozenUptoRow.holds Tryz.pinned (OpenSpec.upto indexFrozenSpec)

/-- 'rollbooklaw29.CiteFind', WHERE WHAT IT READS IS OF BULK AT MOST 1048576: true; the input reads as it did. -/
def citeFindUptoRow : OpenClaim := { program := "ytdbnddmncbjobaagreatdoor", sum := "cb8e6c61e58b5071a15d85cf1e248c814066e56ec8cde61b8ce0b472e56a0732", func := "rollbook/rollbooklaw29.CiteFind", spec := "citeFind", inPlace := ["internal/bytealg.IndexByteString", "internal/bytealg.IndexString"], unfollowed := true, recurses := true, named := ["rollbook/glyph.widths", "internal/bytealg.MaxLen", "strconv.ErrSyntax", "strconv.ErrRange", "internal/strconv.uint64pow10", "math/bits.deBruijn32tab", "math/bits.deBruijn64tab"], apart := false, laid := [("math/bits.deBruijn32tab", laid_math_bits_deBruijn32tab), ("math/bits.deBruijn64tab", laid_math_bits_deBruijn64tab), ("internal/strconv.uint64pow10", laid_internal_strconv_uint64pow10), ("strconv.ErrRange", laid_strconv_ErrRange), ("strconv.ErrSyntax", laid_strconv_ErrSyntax), ("rollbook/glyph.widths", laid_rollbook_glyph_widths)], narrowed := true }
def CiteFindUptoSaid : Prop := citeFindUptoRow.holds Tryz.pinned (OpenSpec.upto citeFindSpec)

/-- 'rollbooklaw29.CiteOf', WHERE WHAT IT READS IS OF BULK AT MOST 1048576: true; the input reads as it did. -/
def citeOfUptoRow : OpenClaim := { program := "ytdbnddmncbjobaagreatdoor", sum := "cb8e6c61e58b5071a15d85cf1e248c814066e56ec8cde61b8ce0b472e56a0732", func := "rollbook/rollbooklaw29.CiteOf", spec := "citeOf", inPlace := ["internal/bytealg.IndexByteString", "internal/bytealg.IndexString"], unfollowed := true, recurses := true, named := ["rollbook/glyph.widths", "internal/bytealg.MaxLen", "strconv.ErrSyntax", "strconv.ErrRange", "internal/strconv.uint64pow10", "math/bits.deBruijn32tab", "math/bits.deBruijn64tab"], apart := false, laid := [("math/bits.deBruijn32tab", laid_math_bits_deBruijn32tab), ("math/bits.deBruijn64tab", laid_math_bits_deBruijn64tab), ("internal/strconv.uint64pow10", laid_internal_strconv_uint64pow10), ("strconv.ErrRange", laid_strconv_ErrRange), ("strconv.ErrSyntax", laid_strconv_ErrSyntax), ("rollbook/glyph.widths", laid_rollbook_glyph_widths)], narrowed := true }
def CiteOfUptoSaid : Prop := citeOfUptoRow.holds Tryz.pinned (OpenSpec.upto citeOfSpec)

/-- 'rollbooklaw29.CiteFrozen', WHERE WHAT IT READS IS OF BULK AT MOST 1048576: true; the input reads as it did. -/
def citeFrozenUptoRow : OpenClaim := { program := "ytdbnddmncbjobaagreatdoor", sum := "cb8e6c61e58b5071a15d85cf1e248c814066e56ec8cde61b8ce0b472e56a0732", func := "rollbook/rollbooklaw29.CiteFrozen", spec := "citeFrozen", inPlace := ["internal/bytealg.IndexByteString", "internal/bytealg.IndexString"], unfollowed := true, recurses := true, named := ["rollbook/glyph.widths", "internal/bytealg.MaxLen", "strconv.ErrSyntax", "strconv.ErrRange", "internal/strconv.uint64pow10", "math/bits.deBruijn32tab", "math/bits.deBruijn64tab"], apart := false, laid := [("math/bits.deBruijn32tab", laid_math_bits_deBruijn32tab), ("math/bits.deBruijn64tab", laid_math_bits_deBruijn64tab), ("internal/strconv.uint64pow10", laid_internal_strconv_uint64pow10), ("strconv.ErrRange", laid_strconv_ErrRange), ("strconv.ErrSyntax", laid_strconv_ErrSyntax), ("rollbook/glyph.widths", laid_rollbook_glyph_widths)], narrowed := true }
def CiteFrozenUptoSaid : Prop := citeFrozenUptoRow.holds Tryz.pinned (OpenSpec.upto citeFrozenSpec)

/-- 'rollbooklaw29.CiteLeads', WHERE WHAT IT READS IS OF BULK AT MOST 1048576: true; the input reads as it did. -/
def citeLeadsUptoRow : OpenClaim := { program := "ytdbnddmncbjobaagreatdoor", sum := "cb8e6c61e58b5071a15d85cf1e248c814066e56ec8cde61b8ce0b472e56a0732", func := "rollbook/rollbooklaw29.CiteLeads", spec := "citeLeads", inPlace := ["internal/bytealg.IndexByteString", "internal/bytealg.IndexString"], unfollowed := true, recurses := true, named := ["rollbook/glyph.widths", "internal/bytealg.MaxLen", "strconv.ErrSyntax", "strconv.ErrRange", "internal/strconv.uint64pow10", "math/bits.deBruijn32tab", "math/bits.deBruijn64tab"], apart := false, laid := [("math/bits.deBruijn32tab", laid_math_bits_deBruijn32tab), ("math/bits.deBruijn64tab", laid_math_bits_deBruijn64tab), ("internal/strconv.uint64pow10", laid_internal_strconv_uint64pow10), ("strconv.ErrRange", laid_strconv_ErrRange), ("strconv.ErrSyntax", laid_strconv_ErrSyntax), ("rollbook/glyph.widths", laid_rollbook_glyph_widths)], narrowed := true }
def CiteLeadsUptoSaid : Prop := citeLeadsUptoRow.holds Tryz.pinned (OpenSpec.upto citeLeadsSpec)

/-- 'rollbooklaw29.CiteKeeps', WHERE WHAT IT READS IS OF BULK AT MOST 1048576: true; the input reads as it did. -/
def citeKeepsUptoRow : OpenClaim := { program := "ytdbnddmncbjobaagreatdoor", sum := "cb8e6c61e58b5071a15d85cf1e248c814066e56ec8cde61b8ce0b472e56a0732", func := "rollbook/rollbooklaw29.CiteKeeps", spec := "citeKeeps", inPlace := ["internal/bytealg.IndexByteString", "internal/bytealg.IndexString"], unfollowed := true, recurses := true, named := ["rollbook/glyph.widths", "internal/bytealg.MaxLen", "strconv.ErrSyntax", "strconv.ErrRange", "internal/strconv.uint64pow10", "math/bits.deBruijn32tab", "math/bits.deBruijn64tab"], apart := false, laid := [("math/bits.deBruijn32tab", laid_math_bits_deBruijn32tab), ("math/bits.deBruijn64tab", laid_math_bits_deBruijn64tab), ("internal/strconv.uint64pow10", laid_internal_strconv_uint64pow10), ("strconv.ErrRange", laid_strconv_ErrRange), ("strconv.ErrSyntax", laid_strconv_ErrSyntax), ("rollbook/glyph.widths", laid_rollbook_glyph_widths)], narrowed := true }
def CiteKeepsUptoSaid : Prop := citeKeepsUptoRow.holds Tryz.pinned (OpenSpec.upto citeKeepsSpec)

/-- 'rollbooklaw31.IndexPlaces', WHERE WHAT IT READS IS OF BULK AT MOST 1048576: true; the input reads as it did. -/
def indexPlacesUptoRow : OpenClaim := { program := "ytdbnddmncbjobaagreatdoor", sum := "cb8e6c61e58b5071a15d85cf1e248c814066e56ec8cde61b8ce0b472e56a0732", func := "rollbook/rollbooklaw31.IndexPlaces", spec := "indexPlaces", inPlace := ["internal/bytealg.abigen_runtime_cmpstring", "internal/bytealg.IndexByteString", "internal/bytealg.IndexString"], unfollowed := true, recurses := true, named := ["rollbook/glyph.widths", "internal/strconv.uint64pow10", "math/bits.deBruijn32tab", "math/bits.deBruijn64tab", "internal/bytealg.MaxLen", "strconv.ErrSyntax", "strconv.ErrRange"], apart := false, laid := [("math/bits.deBruijn32tab", laid_math_bits_deBruijn32tab), ("math/bits.deBruijn64tab", laid_math_bits_deBruijn64tab), ("internal/strconv.uint64pow10", laid_internal_strconv_uint64pow10), ("strconv.ErrRange", laid_strconv_ErrRange), ("strconv.ErrSyntax", laid_strconv_ErrSyntax), ("rollbook/glyph.widths", laid_rollbook_glyph_widths)], narrowed := true }
def IndexPlacesUptoSaid : Prop := indexPlacesUptoRow.holds Tryz.pinned (OpenSpec.upto indexPlacesSpec)

end Rows
end Go.Proofs.YtdbnddmncbjobaaGreatDoor
