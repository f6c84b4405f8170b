/-
  DERIVED. GIVEN WITH THE SEED: THE CARDS: each row of YtngjghblpbdciaaGreatDoorRows.lean that lists a variable, with what it lists TIED to the program's text (the seventh form; the later family's looks); each row that meets fmt, with fmt's text TOLD by the authors' own Lean function (tested against real Go, not proved from fmt's source: count such statements apart). THE CARD IS WHAT COUNTS. Prove the row's statement (the work); the ties are given (YtngjghblpbdciaaGreatDoorTie.lean); close each card by the builder's one call (the guide's Derived/Test/ToyasCard.lean, 'card_holds'). Laid BY PROGRAM, IN A SANDBOX (cutbox-door.mjs). By AI agents, Wed Nov 11 2026. No macro, syntax, notation, axiom, sorry.
-/
import Derived.Test.YtngjghblpbdciaaGreatDoorRows
import GoSem.ClaimSeven
namespace Go.Proofs.YtngjghblpbdciaaGreatDoor
namespace Rows

/-- THE TIED CARD OF 'rollbooklaw18.FactsWords'. -/
def factsWordsCard : Claim7 := { stood := { row := factsWordsRow, standIns := [], harness := (true, "0c91c24963f792eb19e39af0da9578030ab131753e510b0af0d1550b1670ade4"), looks := true }, kinds := [], alts := [], laidByText := true, laidKinds := [.data, .data, .data, .sentinel, .sentinel, .data], laidTests := true, laidLooks := .later }
def FactsWordsCardSaid : Prop := Claim7.holds Tryz.pinned (.plain (OpenSpec.ofChange factsWordsSpec)) factsWordsCard

/-- THE SECOND FORM's CARD OF 'rollbooklaw18.FactsWords'. -/
def factsWordsUptoCard : Claim7 := { stood := { row := factsWordsUptoRow, standIns := [], harness := (true, "0c91c24963f792eb19e39af0da9578030ab131753e510b0af0d1550b1670ade4"), looks := true }, kinds := [], alts := [], laidByText := true, laidKinds := [.data, .data, .data, .sentinel, .sentinel, .data], laidTests := true, laidLooks := .later }
def FactsWordsUptoCardSaid : Prop := Claim7.holds Tryz.pinned (.plain (OpenSpec.upto factsWordsSpec)) factsWordsUptoCard
end Rows
end Go.Proofs.YtngjghblpbdciaaGreatDoor
