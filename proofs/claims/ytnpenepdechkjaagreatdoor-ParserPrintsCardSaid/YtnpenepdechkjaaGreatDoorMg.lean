/- The reference's SameRules. -/
import Derived.Test.YtnpenepdechkjaaGreatDoorMf
import Derived.Test.YtnpenepdechkjaaGreatDoorMe
namespace Go.Proofs.YtnpenepdechkjaaGreatDoor
open Go Go.RowKit

end Go.Proofs.YtnpenepdechkjaaGreatDoor

/- Parsed trees are no larger than the source; tokens of the same kinds, texts and numbers are parsed alike. -/
namespace Go.Proofs.YtnpenepdechkjaaGreatDoor
open Go

end Go.Proofs.YtnpenepdechkjaaGreatDoor

/- The law of spaces walked. -/
namespace Go.Proofs.YtnpenepdechkjaaGreatDoor
open Go Go.RowKit

end Go.Proofs.YtnpenepdechkjaaGreatDoor

/- The parser's errors have codes; the law of two sources. -/
namespace Go.Proofs.YtnpenepdechkjaaGreatDoor
open Go

section
variable {E : Nat → Nat → List Tk → PR Tr} {n : Nat} (hS : ∀ lv o r t r', 1 ≤ lv → E lv o r = .ok t r' → tsz t + r'.length ≤ r.length) (h1 : ∀ o r r' e, r.length + 1 ≤ n → E 1 o r = .bad r' e → e ≠ 0)
include hS h1
end
end Go.Proofs.YtnpenepdechkjaaGreatDoor
