/- Regions that draw their order: an operation that is not wanted may be taken first; the condition may be made stronger on the way. -/
import Derived.Test.YtnpenepdechkjaaGreatDoorMb
namespace Go.Proofs.YtnpenepdechkjaaGreatDoor
open Go
section
variable {P : Program} {ops : Array Oper} {Q : Exit → Act → World → Prop} {md : Region.Mode} {S T : World → Prop} {E : Nat → Bool}
theorem wpE_strong {T' : World → Prop} (hT : ∀ w, T' w → T w) : ∀ (n : Nat) (l : Array Bool) (a : Act) (w : World), wpE P md ops Q S T' E n l a w → wpE P md ops Q S T E n l a w
  | 0, _, _, _, h => h
  | n + 1, _, _, _, h => ⟨h.1, fun i hi => wpOp_mono (fun _ _ g => ⟨⟨g.1.1, hT _ g.1.2⟩, wpE_strong hT n _ _ _ g.2⟩) (h.2 i hi)⟩
end
end Go.Proofs.YtnpenepdechkjaaGreatDoor
