/- The references' Decimal, padded and Print. -/
import Derived.Test.YtnpenepdechkjaaGreatDoorVa
import Derived.Lib.ItoaNum
namespace Go.Proofs.YtnpenepdechkjaaGreatDoor
open Go Go.RowKit

end Go.Proofs.YtnpenepdechkjaaGreatDoor
