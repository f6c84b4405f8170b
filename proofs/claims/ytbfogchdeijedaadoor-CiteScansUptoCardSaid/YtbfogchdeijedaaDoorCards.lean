/-
  DERIVED. GIVEN WITH THE SEED: THE CARDS: each row of YtbfogchdeijedaaDoorRows.lean that lists a variable, with what it lists TIED to the program's text (the seventh form; the later family's looks); each row that meets fmt, with fmt's text TOLD by the authors' own Lean function (tested against real Go, not proved from fmt's source: count such statements apart). THE CARD IS WHAT COUNTS. Prove the row's statement (the work); the ties are given (YtbfogchdeijedaaDoorTie.lean); close each card by the builder's one call (the guide's Derived/Test/ToyasCard.lean, 'card_holds'). Laid BY PROGRAM, IN A SANDBOX (cutbox-door.mjs). By AI agents, Wed Nov 11 2026. No macro, syntax, notation, axiom, sorry.
-/
import Derived.Test.YtbfogchdeijedaaDoorRows
import GoSem.ClaimSeven
namespace Go.Proofs.YtbfogchdeijedaaDoor
namespace Rows

/-- THE TIED CARD OF 'rollbooklaw29.CiteTexts'. -/
def citeTextsCard : Claim7 := { stood := { row := citeTextsRow, standIns := [], harness := (true, "b3e98f5472f42923f2c53c43a81d64d2be11dfc9d162db9f833c987f42ca53ab"), looks := true }, kinds := [], alts := [], laidByText := true, laidKinds := [.data, .data, .data, .sentinel, .sentinel], laidTests := true, laidLooks := .later }
def CiteTextsCardSaid : Prop := Claim7.holds Tryd.pinned (.plain (OpenSpec.ofChange citeTextsSpec)) citeTextsCard

/-- THE TIED CARD OF 'rollbooklaw29.CiteParses'. -/
def citeParsesCard : Claim7 := { stood := { row := citeParsesRow, standIns := [], harness := (true, "b3e98f5472f42923f2c53c43a81d64d2be11dfc9d162db9f833c987f42ca53ab"), looks := true }, kinds := [], alts := [], laidByText := true, laidKinds := [.data, .data, .data, .sentinel, .sentinel], laidTests := true, laidLooks := .later }
def CiteParsesCardSaid : Prop := Claim7.holds Tryd.pinned (.plain (OpenSpec.ofChange citeParsesSpec)) citeParsesCard

/-- THE TIED CARD OF 'rollbooklaw29.CiteRound'. -/
def citeRoundCard : Claim7 := { stood := { row := citeRoundRow, standIns := [], harness := (true, "b3e98f5472f42923f2c53c43a81d64d2be11dfc9d162db9f833c987f42ca53ab"), looks := true }, kinds := [], alts := [], laidByText := true, laidKinds := [.data, .data, .data, .sentinel, .sentinel], laidTests := true, laidLooks := .later }
def CiteRoundCardSaid : Prop := Claim7.holds Tryd.pinned (.plain (OpenSpec.ofChange citeRoundSpec)) citeRoundCard

/-- THE TIED CARD OF 'rollbooklaw29.CiteScans'. -/
def citeScansCard : Claim7 := { stood := { row := citeScansRow, standIns := [], harness := (true, "b3e98f5472f42923f2c53c43a81d64d2be11dfc9d162db9f833c987f42ca53ab"), looks := true }, kinds := [], alts := [], laidByText := true, laidKinds := [.data, .data, .data, .sentinel, .sentinel], laidTests := true, laidLooks := .later }
def CiteScansCardSaid : Prop := Claim7.holds Tryd.pinned (.plain (OpenSpec.ofChange citeScansSpec)) citeScansCard

/-- THE SECOND FORM's CARD OF 'rollbooklaw29.CiteTexts'. -/
def citeTextsUptoCard : Claim7 := { stood := { row := citeTextsUptoRow, standIns := [], harness := (true, "b3e98f5472f42923f2c53c43a81d64d2be11dfc9d162db9f833c987f42ca53ab"), looks := true }, kinds := [], alts := [], laidByText := true, laidKinds := [.data, .data, .data, .sentinel, .sentinel], laidTests := true, laidLooks := .later }
def CiteTextsUptoCardSaid : Prop := Claim7.holds Tryd.pinned (.plain (OpenSpec.upto citeTextsSpec)) citeTextsUptoCard

/-- THE SECOND FORM's CARD OF 'rollbooklaw29.CiteParses'. -/
def citeParsesUptoCard : Claim7 := { stood := { row := citeParsesUptoRow, standIns := [], harness := (true, "b3e98f5472f42923f2c53c43a81d64d2be11dfc9d162db9f833c987f42ca53ab"), looks := true }, kinds := [], alts := [], laidByText := true, laidKinds := [.data, .data, .data, .sentinel, .sentinel], laidTests := true, laidLooks := .later }
def CiteParsesUptoCardSaid : Prop := Claim7.holds Tryd.pinned (.plain (OpenSpec.upto citeParsesSpec)) citeParsesUptoCard

/-- THE SECOND FORM's CARD OF 'rollbooklaw29.CiteRound'. -/
def citeRoundUptoCard : Claim7 := { stood := { row := citeRoundUptoRow, standIns := [], harness := (true, "b3e98f5472f42923f2c53c43a81d64d2be11dfc9d162db9f833c987f42ca53ab"), looks := true }, kinds := [], alts := [], laidByText := true, laidKinds := [.data, .data, .data, .sentinel, .sentinel], laidTests := true, laidLooks := .later }
def CiteRoundUptoCardSaid : Prop := Claim7.holds Tryd.pinned (.plain (OpenSpec.upto citeRoundSpec)) citeRoundUptoCard

/-- THE SECOND FORM's CARD OF 'rollbooklaw29.CiteScans'. -/
def citeScansUptoCard : Claim7 := { stood := { row := citeScansUptoRow, standIns := [], harness := (true, "b3e98f5472f42923f2c53c43a81d64d2be11dfc9d162db9f833c987f42ca53ab"), looks := true }, kinds := [], alts := [], laidByText := true, laidKinds := [.data, .data, .data, .sentinel, .sentinel], laidTests := true, laidLooks := .later }
def CiteScansUptoCardSaid : Prop := Claim7.holds Tryd.pinned (.plain (OpenSpec.upto citeScansSpec)) citeScansUptoCard
end Rows
end Go.Proofs.YtbfogchdeijedaaDoor
