/-
  DERIVED. GIVEN WITH THE SEED: THE CARDS: each row of YtbmcplnfamgpcaaDoorRows.lean that lists a variable, with what it lists TIED to the program's text (the seventh form; the later family's looks); each row that meets fmt, with fmt's text TOLD by the authors' own Lean function (tested against real Go, not proved from fmt's source: count such statements apart). THE CARD IS WHAT COUNTS. Prove the row's statement (the work); the ties are given (YtbmcplnfamgpcaaDoorTie.lean); close each card by the builder's one call (the guide's Derived/Test/ToyasCard.lean, 'card_holds'). Laid BY PROGRAM, IN A SANDBOX (cutbox-door.mjs). By AI agents, Wed Nov 11 2026. No macro, syntax, notation, axiom, sorry.
-/
import Derived.Test.YtbmcplnfamgpcaaDoorRows
import GoSem.ClaimSeven
namespace Go.Proofs.YtbmcplnfamgpcaaDoor
namespace Rows

/-- THE TIED CARD OF 'rollbooklaw12.LexerTokens'. -/
def lexerTokensCard : Claim7 := { stood := { row := lexerTokensRow, standIns := [], harness := (true, "540ee06aefe39dda117d96b1d90ab29329d8b92771ab1afb87151f9c505e6146"), looks := true }, kinds := [], alts := [], laidByText := true, laidKinds := [.data, .data, .data, .sentinel, .sentinel, .data], laidTests := true, laidLooks := .later }
def LexerTokensCardSaid : Prop := Claim7.holds Tryd.pinned (.plain (OpenSpec.ofChange lexerTokensSpec)) lexerTokensCard

/-- THE TIED CARD OF 'rollbooklaw12.LexerLimits'. -/
def lexerLimitsCard : Claim7 := { stood := { row := lexerLimitsRow, standIns := [], harness := (true, "540ee06aefe39dda117d96b1d90ab29329d8b92771ab1afb87151f9c505e6146"), looks := true }, kinds := [], alts := [], laidByText := true, laidKinds := [.data, .data, .data, .sentinel, .sentinel, .data], laidTests := true, laidLooks := .later }
def LexerLimitsCardSaid : Prop := Claim7.holds Tryd.pinned (.plain (OpenSpec.ofChange lexerLimitsSpec)) lexerLimitsCard

/-- THE TIED CARD OF 'rollbooklaw12.LexerShows'. -/
def lexerShowsCard : Claim7 := { stood := { row := lexerShowsRow, standIns := [], harness := (true, "540ee06aefe39dda117d96b1d90ab29329d8b92771ab1afb87151f9c505e6146"), looks := true }, kinds := [], alts := [], laidByText := true, laidKinds := [.data, .data, .data, .sentinel, .sentinel, .data], laidTests := true, laidLooks := .later }
def LexerShowsCardSaid : Prop := Claim7.holds Tryd.pinned (.plain (OpenSpec.ofChange lexerShowsSpec)) lexerShowsCard

/-- THE TIED CARD OF 'rollbooklaw12.LexerRound'. -/
def lexerRoundCard : Claim7 := { stood := { row := lexerRoundRow, standIns := [], harness := (true, "540ee06aefe39dda117d96b1d90ab29329d8b92771ab1afb87151f9c505e6146"), looks := true }, kinds := [], alts := [], laidByText := true, laidKinds := [.data, .data, .data, .sentinel, .sentinel, .data], laidTests := true, laidLooks := .later }
def LexerRoundCardSaid : Prop := Claim7.holds Tryd.pinned (.plain (OpenSpec.ofChange lexerRoundSpec)) lexerRoundCard

/-- THE TIED CARD OF 'rollbooklaw12.LexerCovers'. -/
def lexerCoversCard : Claim7 := { stood := { row := lexerCoversRow, standIns := [], harness := (true, "540ee06aefe39dda117d96b1d90ab29329d8b92771ab1afb87151f9c505e6146"), looks := true }, kinds := [], alts := [], laidByText := true, laidKinds := [.data, .data, .data, .sentinel, .sentinel, .data], laidTests := true, laidLooks := .later }
def LexerCoversCardSaid : Prop := Claim7.holds Tryd.pinned (.plain (OpenSpec.ofChange lexerCoversSpec)) lexerCoversCard

/-- THE TIED CARD OF 'rollbooklaw12.LexerFirst'. -/
def lexerFirstCard : Claim7 := { stood := { row := lexerFirstRow, standIns := [], harness := (true, "540ee06aefe39dda117d96b1d90ab29329d8b92771ab1afb87151f9c505e6146"), looks := true }, kinds := [], alts := [], laidByText := true, laidKinds := [.data, .data, .data, .sentinel, .sentinel, .data], laidTests := true, laidLooks := .later }
def LexerFirstCardSaid : Prop := Claim7.holds Tryd.pinned (.plain (OpenSpec.ofChange lexerFirstSpec)) lexerFirstCard

/-- THE TIED CARD OF 'rollbooklaw12.LexerSpaces'. -/
def lexerSpacesCard : Claim7 := { stood := { row := lexerSpacesRow, standIns := [], harness := (true, "540ee06aefe39dda117d96b1d90ab29329d8b92771ab1afb87151f9c505e6146"), looks := true }, kinds := [], alts := [], laidByText := true, laidKinds := [.data, .data, .data, .sentinel, .sentinel, .data], laidTests := true, laidLooks := .later }
def LexerSpacesCardSaid : Prop := Claim7.holds Tryd.pinned (.plain (OpenSpec.ofChange lexerSpacesSpec)) lexerSpacesCard

/-- THE TIED CARD OF 'rollbooklaw12.LexerConcat'. -/
def lexerConcatCard : Claim7 := { stood := { row := lexerConcatRow, standIns := [], harness := (true, "540ee06aefe39dda117d96b1d90ab29329d8b92771ab1afb87151f9c505e6146"), looks := true }, kinds := [], alts := [], laidByText := true, laidKinds := [.data, .data, .data, .sentinel, .sentinel, .data], laidTests := true, laidLooks := .later }
def LexerConcatCardSaid : Prop := Claim7.holds Tryd.pinned (.plain (OpenSpec.ofChange lexerConcatSpec)) lexerConcatCard

/-- THE TIED CARD OF 'rollbooklaw12.LexerLongest'. -/
def lexerLongestCard : Claim7 := { stood := { row := lexerLongestRow, standIns := [], harness := (true, "540ee06aefe39dda117d96b1d90ab29329d8b92771ab1afb87151f9c505e6146"), looks := true }, kinds := [], alts := [], laidByText := true, laidKinds := [.data, .data, .data, .sentinel, .sentinel, .data], laidTests := true, laidLooks := .later }
def LexerLongestCardSaid : Prop := Claim7.holds Tryd.pinned (.plain (OpenSpec.ofChange lexerLongestSpec)) lexerLongestCard

/-- THE TIED CARD OF 'rollbooklaw12.LexerNumbers'. -/
def lexerNumbersCard : Claim7 := { stood := { row := lexerNumbersRow, standIns := [], harness := (true, "540ee06aefe39dda117d96b1d90ab29329d8b92771ab1afb87151f9c505e6146"), looks := true }, kinds := [], alts := [], laidByText := true, laidKinds := [.data, .data, .data, .sentinel, .sentinel, .data], laidTests := true, laidLooks := .later }
def LexerNumbersCardSaid : Prop := Claim7.holds Tryd.pinned (.plain (OpenSpec.ofChange lexerNumbersSpec)) lexerNumbersCard

/-- THE SECOND FORM's CARD OF 'rollbooklaw12.LexerTokens'. -/
def lexerTokensUptoCard : Claim7 := { stood := { row := lexerTokensUptoRow, standIns := [], harness := (true, "540ee06aefe39dda117d96b1d90ab29329d8b92771ab1afb87151f9c505e6146"), looks := true }, kinds := [], alts := [], laidByText := true, laidKinds := [.data, .data, .data, .sentinel, .sentinel, .data], laidTests := true, laidLooks := .later }
def LexerTokensUptoCardSaid : Prop := Claim7.holds Tryd.pinned (.plain (OpenSpec.upto lexerTokensSpec)) lexerTokensUptoCard

/-- THE SECOND FORM's CARD OF 'rollbooklaw12.LexerLimits'. -/
def lexerLimitsUptoCard : Claim7 := { stood := { row := lexerLimitsUptoRow, standIns := [], harness := (true, "540ee06aefe39dda117d96b1d90ab29329d8b92771ab1afb87151f9c505e6146"), looks := true }, kinds := [], alts := [], laidByText := true, laidKinds := [.data, .data, .data, .sentinel, .sentinel, .data], laidTests := true, laidLooks := .later }
def LexerLimitsUptoCardSaid : Prop := Claim7.holds Tryd.pinned (.plain (OpenSpec.upto lexerLimitsSpec)) lexerLimitsUptoCard

/-- THE SECOND FORM's CARD OF 'rollbooklaw12.LexerShows'. -/
def lexerShowsUptoCard : Claim7 := { stood := { row := lexerShowsUptoRow, standIns := [], harness := (true, "540ee06aefe39dda117d96b1d90ab29329d8b92771ab1afb87151f9c505e6146"), looks := true }, kinds := [], alts := [], laidByText := true, laidKinds := [.data, .data, .data, .sentinel, .sentinel, .data], laidTests := true, laidLooks := .later }
def LexerShowsUptoCardSaid : Prop := Claim7.holds Tryd.pinned (.plain (OpenSpec.upto lexerShowsSpec)) lexerShowsUptoCard

/-- THE SECOND FORM's CARD OF 'rollbooklaw12.LexerRound'. -/
def lexerRoundUptoCard : Claim7 := { stood := { row := lexerRoundUptoRow, standIns := [], harness := (true, "540ee06aefe39dda117d96b1d90ab29329d8b92771ab1afb87151f9c505e6146"), looks := true }, kinds := [], alts := [], laidByText := true, laidKinds := [.data, .data, .data, .sentinel, .sentinel, .data], laidTests := true, laidLooks := .later }
def LexerRoundUptoCardSaid : Prop := Claim7.holds Tryd.pinned (.plain (OpenSpec.upto lexerRoundSpec)) lexerRoundUptoCard

/-- THE SECOND FORM's CARD OF 'rollbooklaw12.LexerCovers'. -/
def lexerCoversUptoCard : Claim7 := { stood := { row := lexerCoversUptoRow, standIns := [], harness := (true, "540ee06aefe39dda117d96b1d90ab29329d8b92771ab1afb87151f9c505e6146"), looks := true }, kinds := [], alts := [], laidByText := true, laidKinds := [.data, .data, .data, .sentinel, .sentinel, .data], laidTests := true, laidLooks := .later }
def LexerCoversUptoCardSaid : Prop := Claim7.holds Tryd.pinned (.plain (OpenSpec.upto lexerCoversSpec)) lexerCoversUptoCard

/-- THE SECOND FORM's CARD OF 'rollbooklaw12.LexerFirst'. -/
def lexerFirstUptoCard : Claim7 := { stood := { row := lexerFirstUptoRow, standIns := [], harness := (true, "540ee06aefe39dda117d96b1d90ab29329d8b92771ab1afb87151f9c505e6146"), looks := true }, kinds := [], alts := [], laidByText := true, laidKinds := [.data, .data, .data, .sentinel, .sentinel, .data], laidTests := true, laidLooks := .later }
def LexerFirstUptoCardSaid : Prop := Claim7.holds Tryd.pinned (.plain (OpenSpec.upto lexerFirstSpec)) lexerFirstUptoCard

/-- THE SECOND FORM's CARD OF 'rollbooklaw12.LexerSpaces'. -/
def lexerSpacesUptoCard : Claim7 := { stood := { row := lexerSpacesUptoRow, standIns := [], harness := (true, "540ee06aefe39dda117d96b1d90ab29329d8b92771ab1afb87151f9c505e6146"), looks := true }, kinds := [], alts := [], laidByText := true, laidKinds := [.data, .data, .data, .sentinel, .sentinel, .data], laidTests := true, laidLooks := .later }
def LexerSpacesUptoCardSaid : Prop := Claim7.holds Tryd.pinned (.plain (OpenSpec.upto lexerSpacesSpec)) lexerSpacesUptoCard

/-- THE SECOND FORM's CARD OF 'rollbooklaw12.LexerConcat'. -/
def lexerConcatUptoCard : Claim7 := { stood := { row := lexerConcatUptoRow, standIns := [], harness := (true, "540ee06aefe39dda117d96b1d90ab29329d8b92771ab1afb87151f9c505e6146"), looks := true }, kinds := [], alts := [], laidByText := true, laidKinds := [.data, .data, .data, .sentinel, .sentinel, .data], laidTests := true, laidLooks := .later }
def LexerConcatUptoCardSaid : Prop := Claim7.holds Tryd.pinned (.plain (OpenSpec.upto lexerConcatSpec)) lexerConcatUptoCard

/-- THE SECOND FORM's CARD OF 'rollbooklaw12.LexerLongest'. -/
def lexerLongestUptoCard : Claim7 := { stood := { row := lexerLongestUptoRow, standIns := [], harness := (true, "540ee06aefe39dda117d96b1d90ab29329d8b92771ab1afb87151f9c505e6146"), looks := true }, kinds := [], alts := [], laidByText := true, laidKinds := [.data, .data, .data, .sentinel, .sentinel, .data], laidTests := true, laidLooks := .later }
def LexerLongestUptoCardSaid : Prop := Claim7.holds Tryd.pinned (.plain (OpenSpec.upto lexerLongestSpec)) lexerLongestUptoCard

/-- THE SECOND FORM's CARD OF 'rollbooklaw12.LexerNumbers'. -/
def lexerNumbersUptoCard : Claim7 := { stood := { row := lexerNumbersUptoRow, standIns := [], harness := (true, "540ee06aefe39dda117d96b1d90ab29329d8b92771ab1afb87151f9c505e6146"), looks := true }, kinds := [], alts := [], laidByText := true, laidKinds := [.data, .data, .data, .sentinel, .sentinel, .data], laidTests := true, laidLooks := .later }
def LexerNumbersUptoCardSaid : Prop := Claim7.holds Tryd.pinned (.plain (OpenSpec.upto lexerNumbersSpec)) lexerNumbersUptoCard
end Rows
end Go.Proofs.YtbmcplnfamgpcaaDoor
