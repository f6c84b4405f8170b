/-
  DERIVED. GIVEN WITH THE SEED: THE CARDS: each row of YtdbnddmncbjobaaGreatDoorRows.lean that lists a variable, with what it lists TIED to the program's text (the seventh form; the later family's looks); each row that meets fmt, with fmt's text TOLD by the authors' own Lean function (tested against real Go, not proved from fmt's source: count such statements apart). THE CARD IS WHAT COUNTS. Prove the row's statement (the work); the ties are given (YtdbnddmncbjobaaGreatDoorTie.lean); close each card by the builder's one call (the guide's Derived/Test/ToyasCard.lean, 'card_holds'). Laid BY PROGRAM, IN A SANDBOX (cutbox-door.mjs). By AI agents, Wed Nov 11 2026. No macro, syntax, notation, axiom, sorry.
-/
import Derived.Test.YtdbnddmncbjobaaGreatDoorRows
import GoSem.ClaimSeven
namespace Go.Proofs.YtdbnddmncbjobaaGreatDoor
namespace Rows

/-- THE TIED CARD OF 'rollbooklaw31.IndexItems'. -/
def indexItemsCard : Claim7 := { stood := { row := indexItemsRow, standIns := [], harness := (true, "b1e092396f69189a2458704495c35903bcfb8c6997dfab1195e788b53ee6827e"), looks := true }, kinds := [], alts := [], laidByText := true, laidKinds := [.data], laidTests := true, laidLooks := .later }
def IndexItemsCardSaid : Prop := Claim7.holds Tryz.pinned (.plain (OpenSpec.ofChange indexItemsSpec)) indexItemsCard

/-- THE TIED CARD OF 'rollbooklaw31.IndexMerges'. -/
def indexMergesCard : Claim7 := { stood := { row := indexMergesRow, standIns := [], harness := (true, "b1e092396f69189a2458704495c35903bcfb8c6997dfab1195e788b53ee6827e"), looks := true }, kinds := [], alts := [], laidByText := true, laidKinds := [.data], laidTests := true, laidLooks := .later }
def IndexMergesCardSaid : Prop := Claim7.holds Tryz.pinned (.plain (OpenSpec.ofChange indexMergesSpec)) indexMergesCard

/-- THE TIED CARD OF 'rollbooklaw31.IndexSeals'. -/
def indexSealsCard : Claim7 := { stood := { row := indexSealsRow, standIns := [], harness := (true, "b1e092396f69189a2458704495c35903bcfb8c6997dfab1195e788b53ee6827e"), looks := true }, kinds := [], alts := [], laidByText := true, laidKinds := [.data], laidTests := true, laidLooks := .later }
def IndexSealsCardSaid : Prop := Claim7.holds Tryz.pinned (.plain (OpenSpec.ofChange indexSealsSpec)) indexSealsCard

/-- THE TIED CARD OF 'rollbooklaw31.IndexHidden'. -/
def indexHiddenCard : Claim7 := { stood := { row := indexHiddenRow, standIns := [], harness := (true, "b1e092396f69189a2458704495c35903bcfb8c6997dfab1195e788b53ee6827e"), looks := true }, kinds := [], alts := [], laidByText := true, laidKinds := [.data], laidTests := true, laidLooks := .later }
def IndexHiddenCardSaid : Prop := Claim7.holds Tryz.pinned (.plain (OpenSpec.ofChange indexHiddenSpec)) indexHiddenCard

/-- THE TIED CARD OF 'rollbooklaw31.IndexUnion'. -/
def indexUnionCard : Claim7 := { stood := { row := indexUnionRow, standIns := [], harness := (true, "b1e092396f69189a2458704495c35903bcfb8c6997dfab1195e788b53ee6827e"), looks := true }, kinds := [], alts := [], laidByText := true, laidKinds := [.data], laidTests := true, laidLooks := .later }
def IndexUnionCardSaid : Prop := Claim7.holds Tryz.pinned (.plain (OpenSpec.ofChange indexUnionSpec)) indexUnionCard

/-- THE TIED CARD OF 'rollbooklaw31.IndexComplete'. -/
def indexCompleteCard : Claim7 := { stood := { row := indexCompleteRow, standIns := [], harness := (true, "b1e092396f69189a2458704495c35903bcfb8c6997dfab1195e788b53ee6827e"), looks := true }, kinds := [], alts := [], laidByText := true, laidKinds := [.data], laidTests := true, laidLooks := .later }
def IndexCompleteCardSaid : Prop := Claim7.holds Tryz.pinned (.plain (OpenSpec.ofChange indexCompleteSpec)) indexCompleteCard

/-- THE TIED CARD OF 'rollbooklaw31.IndexFrozen'. -/
def indexFrozenCard : Claim7 := { stood := { row := indexFrozenRow, standIns := [], harness := (true, "b1e092396f69189a2458704495c35903bcfb8c6997dfab1195e788b53ee6827e"), looks := true }, kinds := [], alts := [], laidByText := true, laidKinds := [.data], laidTests := true, laidLooks := .later }
def IndexFrozenCardSaid : Prop := Claim7.holds Tryz.pinned (.plain (OpenSpec.ofChange indexFrozenSpec)) indexFrozenCard

/-- THE TIED CARD OF 'rollbooklaw29.CiteFind'. -/
def citeFindCard : Claim7 := { stood := { row := citeFindRow, standIns := [], harness := (true, "b1e092396f69189a2458704495c35903bcfb8c6997dfab1195e788b53ee6827e"), looks := true }, kinds := [], alts := [], laidByText := true, laidKinds := [.data, .data, .data, .sentinel, .sentinel, .data], laidTests := true, laidLooks := .later }
def CiteFindCardSaid : Prop := Claim7.holds Tryz.pinned (.plain (OpenSpec.ofChange citeFindSpec)) citeFindCard

/-- THE TIED CARD OF 'rollbooklaw29.CiteOf'. -/
def citeOfCard : Claim7 := { stood := { row := citeOfRow, standIns := [], harness := (true, "b1e092396f69189a2458704495c35903bcfb8c6997dfab1195e788b53ee6827e"), looks := true }, kinds := [], alts := [], laidByText := true, laidKinds := [.data, .data, .data, .sentinel, .sentinel, .data], laidTests := true, laidLooks := .later }
def CiteOfCardSaid : Prop := Claim7.holds Tryz.pinned (.plain (OpenSpec.ofChange citeOfSpec)) citeOfCard

/-- THE TIED CARD OF 'rollbooklaw29.CiteFrozen'. -/
def citeFrozenCard : Claim7 := { stood := { row := citeFrozenRow, standIns := [], harness := (true, "b1e092396f69189a2458704495c35903bcfb8c6997dfab1195e788b53ee6827e"), looks := true }, kinds := [], alts := [], laidByText := true, laidKinds := [.data, .data, .data, .sentinel, .sentinel, .data], laidTests := true, laidLooks := .later }
def CiteFrozenCardSaid : Prop := Claim7.holds Tryz.pinned (.plain (OpenSpec.ofChange citeFrozenSpec)) citeFrozenCard

/-- THE TIED CARD OF 'rollbooklaw29.CiteLeads'. -/
def citeLeadsCard : Claim7 := { stood := { row := citeLeadsRow, standIns := [], harness := (true, "b1e092396f69189a2458704495c35903bcfb8c6997dfab1195e788b53ee6827e"), looks := true }, kinds := [], alts := [], laidByText := true, laidKinds := [.data, .data, .data, .sentinel, .sentinel, .data], laidTests := true, laidLooks := .later }
def CiteLeadsCardSaid : Prop := Claim7.holds Tryz.pinned (.plain (OpenSpec.ofChange citeLeadsSpec)) citeLeadsCard

/-- THE TIED CARD OF 'rollbooklaw29.CiteKeeps'. -/
def citeKeepsCard : Claim7 := { stood := { row := citeKeepsRow, standIns := [], harness := (true, "b1e092396f69189a2458704495c35903bcfb8c6997dfab1195e788b53ee6827e"), looks := true }, kinds := [], alts := [], laidByText := true, laidKinds := [.data, .data, .data, .sentinel, .sentinel, .data], laidTests := true, laidLooks := .later }
def CiteKeepsCardSaid : Prop := Claim7.holds Tryz.pinned (.plain (OpenSpec.ofChange citeKeepsSpec)) citeKeepsCard

/-- THE TIED CARD OF 'rollbooklaw31.IndexPlaces'. -/
def indexPlacesCard : Claim7 := { stood := { row := indexPlacesRow, standIns := [], harness := (true, "b1e092396f69189a2458704495c35903bcfb8c6997dfab1195e788b53ee6827e"), looks := true }, kinds := [], alts := [], laidByText := true, laidKinds := [.data, .data, .data, .sentinel, .sentinel, .data], laidTests := true, laidLooks := .later }
def IndexPlacesCardSaid : Prop := Claim7.holds Tryz.pinned (.plain (OpenSpec.ofChange indexPlacesSpec)) indexPlacesCard

/-- THE SECOND FORM's CARD OF 'rollbooklaw31.IndexItems'. -/
def indexItemsUptoCard : Claim7 := { stood := { row := indexItemsUptoRow, standIns := [], harness := (true, "b1e092396f69189a2458704495c35903bcfb8c6997dfab1195e788b53ee6827e"), looks := true }, kinds := [], alts := [], laidByText := true, laidKinds := [.data], laidTests := true, laidLooks := .later }
def IndexItemsUptoCardSaid : Prop := Claim7.holds Tryz.pinned (.plain (OpenSpec.upto indexItemsSpec)) indexItemsUptoCard

/-- THE SECOND FORM's CARD OF 'rollbooklaw31.IndexMerges'. -/
def indexMergesUptoCard : Claim7 := { stood := { row := indexMergesUptoRow, standIns := [], harness := (true, "b1e092396f69189a2458704495c35903bcfb8c6997dfab1195e788b53ee6827e"), looks := true }, kinds := [], alts := [], laidByText := true, laidKinds := [.data], laidTests := true, laidLooks := .later }
def IndexMergesUptoCardSaid : Prop := Claim7.holds Tryz.pinned (.plain (OpenSpec.upto indexMergesSpec)) indexMergesUptoCard

/-- THE SECOND FORM's CARD OF 'rollbooklaw31.IndexSeals'. -/
def indexSealsUptoCard : Claim7 := { stood := { row := indexSealsUptoRow, standIns := [], harness := (true, "b1e092396f69189a2458704495c35903bcfb8c6997dfab1195e788b53ee6827e"), looks := true }, kinds := [], alts := [], laidByText := true, laidKinds := [.data], laidTests := true, laidLooks := .later }
def IndexSealsUptoCardSaid : Prop := Claim7.holds Tryz.pinned (.plain (OpenSpec.upto indexSealsSpec)) indexSealsUptoCard

/-- THE SECOND FORM's CARD OF 'rollbooklaw31.IndexHidden'. -/
def indexHiddenUptoCard : Claim7 := { stood := { row := indexHiddenUptoRow, standIns := [], harness := (true, "b1e092396f69189a2458704495c35903bcfb8c6997dfab1195e788b53ee6827e"), looks := true }, kinds := [], alts := [], laidByText := true, laidKinds := [.data], laidTests := true, laidLooks := .later }
def IndexHiddenUptoCardSaid : Prop := Claim7.holds Tryz.pinned (.plain (OpenSpec.upto indexHiddenSpec)) indexHiddenUptoCard

/-- THE SECOND FORM's CARD OF 'rollbooklaw31.IndexUnion'. -/
def indexUnionUptoCard : Claim7 := { stood := { row := indexUnionUptoRow, standIns := [], harness := (true, "b1e092396f69189a2458704495c35903bcfb8c6997dfab1195e788b53ee6827e"), looks := true }, kinds := [], alts := [], laidByText := true, laidKinds := [.data], laidTests := true, laidLooks := .later }
def IndexUnionUptoCardSaid : Prop := Claim7.holds Tryz.pinned (.plain (OpenSpec.upto indexUnionSpec)) indexUnionUptoCard

/-- THE SECOND FORM's CARD OF 'rollbooklaw31.IndexComplete'. -/
def indexCompleteUptoCard : Claim7 := { stood := { row := indexCompleteUptoRow, standIns := [], harness := (true, "b1e092396f69189a2458704495c35903bcfb8c6997dfab1195e788b53ee6827e"), looks := true }, kinds := [], alts := [], laidByText := true, laidKinds := [.data], laidTests := true, laidLooks := .later }
def IndexCompleteUptoCardSaid : Prop := Claim7.holds Tryz.pinned (.plain (OpenSpec.upto indexCompleteSpec)) indexCompleteUptoCard

/-- THE SECOND FORM's CARD OF 'rollbooklaw31.IndexFrozen'. -/
def indexFrozenUptoCard : Claim7 := { stood := { row := indexFrozenUptoRow, standIns := [], harness := (true, "b1e092396f69189a2458704495c35903bcfb8c6997dfab1195e788b53ee6827e"), looks := true }, kinds := [], alts := [], laidByText := true, laidKinds := [.data], laidTests := true, laidLooks := .later }
def IndexFrozenUptoCardSaid : Prop := Claim7.holds Tryz.pinned (.plain (OpenSpec.upto indexFrozenSpec)) indexFrozenUptoCard

/-- THE SECOND FORM's CARD OF 'rollbooklaw29.CiteFind'. -/
def citeFindUptoCard : Claim7 := { stood := { row := citeFindUptoRow, standIns := [], harness := (true, "b1e092396f69189a2458704495c35903bcfb8c6997dfab1195e788b53ee6827e"), looks := true }, kinds := [], alts := [], laidByText := true, laidKinds := [.data, .data, .data, .sentinel, .sentinel, .data], laidTests := true, laidLooks := .later }
def CiteFindUptoCardSaid : Prop := Claim7.holds Tryz.pinned (.plain (OpenSpec.upto citeFindSpec)) citeFindUptoCard

/-- THE SECOND FORM's CARD OF 'rollbooklaw29.CiteOf'. -/
def citeOfUptoCard : Claim7 := { stood := { row := citeOfUptoRow, standIns := [], harness := (true, "b1e092396f69189a2458704495c35903bcfb8c6997dfab1195e788b53ee6827e"), looks := true }, kinds := [], alts := [], laidByText := true, laidKinds := [.data, .data, .data, .sentinel, .sentinel, .data], laidTests := true, laidLooks := .later }
def CiteOfUptoCardSaid : Prop := Claim7.holds Tryz.pinned (.plain (OpenSpec.upto citeOfSpec)) citeOfUptoCard

/-- THE SECOND FORM's CARD OF 'rollbooklaw29.CiteFrozen'. -/
def citeFrozenUptoCard : Claim7 := { stood := { row := citeFrozenUptoRow, standIns := [], harness := (true, "b1e092396f69189a2458704495c35903bcfb8c6997dfab1195e788b53ee6827e"), looks := true }, kinds := [], alts := [], laidByText := true, laidKinds := [.data, .data, .data, .sentinel, .sentinel, .data], laidTests := true, laidLooks := .later }
def CiteFrozenUptoCardSaid : Prop := Claim7.holds Tryz.pinned (.plain (OpenSpec.upto citeFrozenSpec)) citeFrozenUptoCard

/-- THE SECOND FORM's CARD OF 'rollbooklaw29.CiteLeads'. -/
def citeLeadsUptoCard : Claim7 := { stood := { row := citeLeadsUptoRow, standIns := [], harness := (true, "b1e092396f69189a2458704495c35903bcfb8c6997dfab1195e788b53ee6827e"), looks := true }, kinds := [], alts := [], laidByText := true, laidKinds := [.data, .data, .data, .sentinel, .sentinel, .data], laidTests := true, laidLooks := .later }
def CiteLeadsUptoCardSaid : Prop := Claim7.holds Tryz.pinned (.plain (OpenSpec.upto citeLeadsSpec)) citeLeadsUptoCard

/-- THE SECOND FORM's CARD OF 'rollbooklaw29.CiteKeeps'. -/
def citeKeepsUptoCard : Claim7 := { stood := { row := citeKeepsUptoRow, standIns := [], harness := (true, "b1e092396f69189a2458704495c35903bcfb8c6997dfab1195e788b53ee6827e"), looks := true }, kinds := [], alts := [], laidByText := true, laidKinds := [.data, .data, .data, .sentinel, .sentinel, .data], laidTests := true, laidLooks := .later }
def CiteKeepsUptoCardSaid : Prop := Claim7.holds Tryz.pinned (.plain (OpenSpec.upto citeKeepsSpec)) citeKeepsUptoCard

/-- THE SECOND FORM's CARD OF 'rollbooklaw31.IndexPlaces'. -/
def indexPlacesUptoCard : Claim7 := { stood := { row := indexPlacesUptoRow, standIns := [], harness := (true, "b1e092396f69189a2458704495c35903bcfb8c6997dfab1195e788b53ee6827e"), looks := true }, kinds := [], alts := [], laidByText := true, laidKinds := [.data, .data, .data, .sentinel, .sentinel, .data], laidTests := true, laidLooks := .later }
def IndexPlacesUptoCardSaid : Prop := Claim7.holds Tryz.pinned (.plain (OpenSpec.upto indexPlacesSpec)) indexPlacesUptoCard
end Rows
end Go.Proofs.YtdbnddmncbjobaaGreatDoor
