/-
  DERIVED. GIVEN WITH THE SEED: THE CARDS: each row of YtnpenepdechkjaaGreatDoorRows.lean that lists a variable, with what it lists TIED to the program's text (the seventh form; the later family's looks); each row that meets fmt, with fmt's text TOLD by the authors' own Lean function (tested against real Go, not proved from fmt's source: count such statements apart). THE CARD IS WHAT COUNTS. Prove the row's statement (the work); the ties are given (YtnpenepdechkjaaGreatDoorTie.lean); close each card by the builder's one call (the guide's Derived/Test/ToyasCard.lean, 'card_holds'). Laid BY PROGRAM, IN A SANDBOX (cutbox-door.mjs). By AI agents, Wed Nov 11 2026. No macro, syntax, notation, axiom, sorry.
-/
import Derived.Test.YtnpenepdechkjaaGreatDoorRows
import GoSem.ClaimSeven
namespace Go.Proofs.YtnpenepdechkjaaGreatDoor
namespace Rows

/-- THE TIED CARD OF 'rollbooklaw13.ParserParses'. -/
def parserParsesCard : Claim7 := { stood := { row := parserParsesRow, standIns := [], harness := (true, "750db62e1fa7c1c77e231cb8830447ccdb4846d1d0654308fee9e8fbf3e5520b"), looks := true }, kinds := [], alts := [], laidByText := true, laidKinds := [.data, .data, .data, .sentinel, .sentinel, .data], laidTests := true, laidLooks := .later }
def ParserParsesCardSaid : Prop := Claim7.holds Tryz.pinned (.plain (OpenSpec.ofChange parserParsesSpec)) parserParsesCard

/-- THE TIED CARD OF 'rollbooklaw13.ParserExpressions'. -/
def parserExpressionsCard : Claim7 := { stood := { row := parserExpressionsRow, standIns := [], harness := (true, "750db62e1fa7c1c77e231cb8830447ccdb4846d1d0654308fee9e8fbf3e5520b"), looks := true }, kinds := [], alts := [], laidByText := true, laidKinds := [.data, .data, .data, .sentinel, .sentinel, .data], laidTests := true, laidLooks := .later }
def ParserExpressionsCardSaid : Prop := Claim7.holds Tryz.pinned (.plain (OpenSpec.ofChange parserExpressionsSpec)) parserExpressionsCard

/-- THE TIED CARD OF 'rollbooklaw13.ParserPrints'. -/
def parserPrintsCard : Claim7 := { stood := { row := parserPrintsRow, standIns := [], harness := (true, "750db62e1fa7c1c77e231cb8830447ccdb4846d1d0654308fee9e8fbf3e5520b"), looks := true }, kinds := [], alts := [], laidByText := true, laidKinds := [.data, .data, .data, .sentinel, .sentinel, .data], laidTests := true, laidLooks := .later }
def ParserPrintsCardSaid : Prop := Claim7.holds Tryz.pinned (.plain (OpenSpec.ofChange parserPrintsSpec)) parserPrintsCard

/-- THE TIED CARD OF 'rollbooklaw13.ParserShows'. -/
def parserShowsCard : Claim7 := { stood := { row := parserShowsRow, standIns := [], harness := (true, "750db62e1fa7c1c77e231cb8830447ccdb4846d1d0654308fee9e8fbf3e5520b"), looks := true }, kinds := [], alts := [], laidByText := true, laidKinds := [.data, .data, .data, .sentinel, .sentinel, .data], laidTests := true, laidLooks := .later }
def ParserShowsCardSaid : Prop := Claim7.holds Tryz.pinned (.plain (OpenSpec.ofChange parserShowsSpec)) parserShowsCard

/-- THE TIED CARD OF 'rollbooklaw13.ParserRound'. -/
def parserRoundCard : Claim7 := { stood := { row := parserRoundRow, standIns := [], harness := (true, "750db62e1fa7c1c77e231cb8830447ccdb4846d1d0654308fee9e8fbf3e5520b"), looks := true }, kinds := [], alts := [], laidByText := true, laidKinds := [.data, .data, .data, .sentinel, .sentinel, .data], laidTests := true, laidLooks := .later }
def ParserRoundCardSaid : Prop := Claim7.holds Tryz.pinned (.plain (OpenSpec.ofChange parserRoundSpec)) parserRoundCard

/-- THE TIED CARD OF 'rollbooklaw13.ParserBuilds'. -/
def parserBuildsCard : Claim7 := { stood := { row := parserBuildsRow, standIns := [], harness := (true, "750db62e1fa7c1c77e231cb8830447ccdb4846d1d0654308fee9e8fbf3e5520b"), looks := true }, kinds := [], alts := [], laidByText := true, laidKinds := [.data, .data, .data, .sentinel, .sentinel, .data], laidTests := true, laidLooks := .later }
def ParserBuildsCardSaid : Prop := Claim7.holds Tryz.pinned (.plain (OpenSpec.ofChange parserBuildsSpec)) parserBuildsCard

/-- THE TIED CARD OF 'rollbooklaw13.ParserTail'. -/
def parserTailCard : Claim7 := { stood := { row := parserTailRow, standIns := [], harness := (true, "750db62e1fa7c1c77e231cb8830447ccdb4846d1d0654308fee9e8fbf3e5520b"), looks := true }, kinds := [], alts := [], laidByText := true, laidKinds := [.data, .data, .data, .sentinel, .sentinel, .data], laidTests := true, laidLooks := .later }
def ParserTailCardSaid : Prop := Claim7.holds Tryz.pinned (.plain (OpenSpec.ofChange parserTailSpec)) parserTailCard

/-- THE TIED CARD OF 'rollbooklaw13.ParserConcat'. -/
def parserConcatCard : Claim7 := { stood := { row := parserConcatRow, standIns := [], harness := (true, "750db62e1fa7c1c77e231cb8830447ccdb4846d1d0654308fee9e8fbf3e5520b"), looks := true }, kinds := [], alts := [], laidByText := true, laidKinds := [.data, .data, .data, .sentinel, .sentinel, .data], laidTests := true, laidLooks := .later }
def ParserConcatCardSaid : Prop := Claim7.holds Tryz.pinned (.plain (OpenSpec.ofChange parserConcatSpec)) parserConcatCard

/-- THE TIED CARD OF 'rollbooklaw13.ParserParens'. -/
def parserParensCard : Claim7 := { stood := { row := parserParensRow, standIns := [], harness := (true, "750db62e1fa7c1c77e231cb8830447ccdb4846d1d0654308fee9e8fbf3e5520b"), looks := true }, kinds := [], alts := [], laidByText := true, laidKinds := [.data, .data, .data, .sentinel, .sentinel, .data], laidTests := true, laidLooks := .later }
def ParserParensCardSaid : Prop := Claim7.holds Tryz.pinned (.plain (OpenSpec.ofChange parserParensSpec)) parserParensCard

/-- THE TIED CARD OF 'rollbooklaw13.ParserFollows'. -/
def parserFollowsCard : Claim7 := { stood := { row := parserFollowsRow, standIns := [], harness := (true, "750db62e1fa7c1c77e231cb8830447ccdb4846d1d0654308fee9e8fbf3e5520b"), looks := true }, kinds := [], alts := [], laidByText := true, laidKinds := [.data, .data, .data, .sentinel, .sentinel, .data], laidTests := true, laidLooks := .later }
def ParserFollowsCardSaid : Prop := Claim7.holds Tryz.pinned (.plain (OpenSpec.ofChange parserFollowsSpec)) parserFollowsCard

/-- THE TIED CARD OF 'rollbooklaw13.ParserSpaces'. -/
def parserSpacesCard : Claim7 := { stood := { row := parserSpacesRow, standIns := [], harness := (true, "750db62e1fa7c1c77e231cb8830447ccdb4846d1d0654308fee9e8fbf3e5520b"), looks := true }, kinds := [], alts := [], laidByText := true, laidKinds := [.data, .data, .data, .sentinel, .sentinel, .data], laidTests := true, laidLooks := .later }
def ParserSpacesCardSaid : Prop := Claim7.holds Tryz.pinned (.plain (OpenSpec.ofChange parserSpacesSpec)) parserSpacesCard

/-- THE SECOND FORM's CARD OF 'rollbooklaw13.ParserParses'. -/
def parserParsesUptoCard : Claim7 := { stood := { row := parserParsesUptoRow, standIns := [], harness := (true, "750db62e1fa7c1c77e231cb8830447ccdb4846d1d0654308fee9e8fbf3e5520b"), looks := true }, kinds := [], alts := [], laidByText := true, laidKinds := [.data, .data, .data, .sentinel, .sentinel, .data], laidTests := true, laidLooks := .later }
def ParserParsesUptoCardSaid : Prop := Claim7.holds Tryz.pinned (.plain (OpenSpec.upto parserParsesSpec)) parserParsesUptoCard

/-- THE SECOND FORM's CARD OF 'rollbooklaw13.ParserExpressions'. -/
def parserExpressionsUptoCard : Claim7 := { stood := { row := parserExpressionsUptoRow, standIns := [], harness := (true, "750db62e1fa7c1c77e231cb8830447ccdb4846d1d0654308fee9e8fbf3e5520b"), looks := true }, kinds := [], alts := [], laidByText := true, laidKinds := [.data, .data, .data, .sentinel, .sentinel, .data], laidTests := true, laidLooks := .later }
def ParserExpressionsUptoCardSaid : Prop := Claim7.holds Tryz.pinned (.plain (OpenSpec.upto parserExpressionsSpec)) parserExpressionsUptoCard

/-- THE SECOND FORM's CARD OF 'rollbooklaw13.ParserPrints'. -/
def parserPrintsUptoCard : Claim7 := { stood := { row := parserPrintsUptoRow, standIns := [], harness := (true, "750db62e1fa7c1c77e231cb8830447ccdb4846d1d0654308fee9e8fbf3e5520b"), looks := true }, kinds := [], alts := [], laidByText := true, laidKinds := [.data, .data, .data, .sentinel, .sentinel, .data], laidTests := true, laidLooks := .later }
def ParserPrintsUptoCardSaid : Prop := Claim7.holds Tryz.pinned (.plain (OpenSpec.upto parserPrintsSpec)) parserPrintsUptoCard

/-- THE SECOND FORM's CARD OF 'rollbooklaw13.ParserShows'. -/
def parserShowsUptoCard : Claim7 := { stood := { row := parserShowsUptoRow, standIns := [], harness := (true, "750db62e1fa7c1c77e231cb8830447ccdb4846d1d0654308fee9e8fbf3e5520b"), looks := true }, kinds := [], alts := [], laidByText := true, laidKinds := [.data, .data, .data, .sentinel, .sentinel, .data], laidTests := true, laidLooks := .later }
def ParserShowsUptoCardSaid : Prop := Claim7.holds Tryz.pinned (.plain (OpenSpec.upto parserShowsSpec)) parserShowsUptoCard

/-- THE SECOND FORM's CARD OF 'rollbooklaw13.ParserRound'. -/
def parserRoundUptoCard : Claim7 := { stood := { row := parserRoundUptoRow, standIns := [], harness := (true, "750db62e1fa7c1c77e231cb8830447ccdb4846d1d0654308fee9e8fbf3e5520b"), looks := true }, kinds := [], alts := [], laidByText := true, laidKinds := [.data, .data, .data, .sentinel, .sentinel, .data], laidTests := true, laidLooks := .later }
def ParserRoundUptoCardSaid : Prop := Claim7.holds Tryz.pinned (.plain (OpenSpec.upto parserRoundSpec)) parserRoundUptoCard

/-- THE SECOND FORM's CARD OF 'rollbooklaw13.ParserBuilds'. -/
def parserBuildsUptoCard : Claim7 := { stood := { row := parserBuildsUptoRow, standIns := [], harness := (true, "750db62e1fa7c1c77e231cb8830447ccdb4846d1d0654308fee9e8fbf3e5520b"), looks := true }, kinds := [], alts := [], laidByText := true, laidKinds := [.data, .data, .data, .sentinel, .sentinel, .data], laidTests := true, laidLooks := .later }
def ParserBuildsUptoCardSaid : Prop := Claim7.holds Tryz.pinned (.plain (OpenSpec.upto parserBuildsSpec)) parserBuildsUptoCard

/-- THE SECOND FORM's CARD OF 'rollbooklaw13.ParserTail'. -/
def parserTailUptoCard : Claim7 := { stood := { row := parserTailUptoRow, standIns := [], harness := (true, "750db62e1fa7c1c77e231cb8830447ccdb4846d1d0654308fee9e8fbf3e5520b"), looks := true }, kinds := [], alts := [], laidByText := true, laidKinds := [.data, .data, .data, .sentinel, .sentinel, .data], laidTests := true, laidLooks := .later }
def ParserTailUptoCardSaid : Prop := Claim7.holds Tryz.pinned (.plain (OpenSpec.upto parserTailSpec)) parserTailUptoCard

/-- THE SECOND FORM's CARD OF 'rollbooklaw13.ParserConcat'. -/
def parserConcatUptoCard : Claim7 := { stood := { row := parserConcatUptoRow, standIns := [], harness := (true, "750db62e1fa7c1c77e231cb8830447ccdb4846d1d0654308fee9e8fbf3e5520b"), looks := true }, kinds := [], alts := [], laidByText := true, laidKinds := [.data, .data, .data, .sentinel, .sentinel, .data], laidTests := true, laidLooks := .later }
def ParserConcatUptoCardSaid : Prop := Claim7.holds Tryz.pinned (.plain (OpenSpec.upto parserConcatSpec)) parserConcatUptoCard

/-- THE SECOND FORM's CARD OF 'rollbooklaw13.ParserParens'. -/
def parserParensUptoCard : Claim7 := { stood := { row := parserParensUptoRow, standIns := [], harness := (true, "750db62e1fa7c1c77e231cb8830447ccdb4846d1d0654308fee9e8fbf3e5520b"), looks := true }, kinds := [], alts := [], laidByText := true, laidKinds := [.data, .data, .data, .sentinel, .sentinel, .data], laidTests := true, laidLooks := .later }
def ParserParensUptoCardSaid : Prop := Claim7.holds Tryz.pinned (.plain (OpenSpec.upto parserParensSpec)) parserParensUptoCard

/-- THE SECOND FORM's CARD OF 'rollbooklaw13.ParserFollows'. -/
def parserFollowsUptoCard : Claim7 := { stood := { row := parserFollowsUptoRow, standIns := [], harness := (true, "750db62e1fa7c1c77e231cb8830447ccdb4846d1d0654308fee9e8fbf3e5520b"), looks := true }, kinds := [], alts := [], laidByText := true, laidKinds := [.data, .data, .data, .sentinel, .sentinel, .data], laidTests := true, laidLooks := .later }
def ParserFollowsUptoCardSaid : Prop := Claim7.holds Tryz.pinned (.plain (OpenSpec.upto parserFollowsSpec)) parserFollowsUptoCard

/-- THE SECOND FORM's CARD OF 'rollbooklaw13.ParserSpaces'. -/
def parserSpacesUptoCard : Claim7 := { stood := { row := parserSpacesUptoRow, standIns := [], harness := (true, "750db62e1fa7c1c77e231cb8830447ccdb4846d1d0654308fee9e8fbf3e5520b"), looks := true }, kinds := [], alts := [], laidByText := true, laidKinds := [.data, .data, .data, .sentinel, .sentinel, .data], laidTests := true, laidLooks := .later }
def ParserSpacesUptoCardSaid : Prop := Claim7.holds Tryz.pinned (.plain (OpenSpec.upto parserSpacesSpec)) parserSpacesUptoCard
end Rows
end Go.Proofs.YtnpenepdechkjaaGreatDoor
