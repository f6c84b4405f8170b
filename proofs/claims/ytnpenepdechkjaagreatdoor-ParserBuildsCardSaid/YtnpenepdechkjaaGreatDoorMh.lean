/- The reference: its tests on bytes, and its dates. -/
import Derived.Test.YtnpenepdechkjaaGreatDoorMa
namespace Go.Proofs.YtnpenepdechkjaaGreatDoor
open Go Go.RowKit

end Go.Proofs.YtnpenepdechkjaaGreatDoor
