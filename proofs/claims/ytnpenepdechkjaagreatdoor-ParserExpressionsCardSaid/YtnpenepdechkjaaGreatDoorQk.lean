/- All names, numbers and days of what is parsed occur among the tokens. -/
import Derived.Test.YtnpenepdechkjaaGreatDoorMg
import Derived.Test.YtnpenepdechkjaaGreatDoorMe
namespace Go.Proofs.YtnpenepdechkjaaGreatDoor
open Go

def Wts (ts : List Tk) : Prop := ∀ t ∈ ts, TokOK t ∨ (t.kd = 0 ∧ t.tx = [])
section
variable {ts : List Tk} (hW : Wts ts)
end
end Go.Proofs.YtnpenepdechkjaaGreatDoor
