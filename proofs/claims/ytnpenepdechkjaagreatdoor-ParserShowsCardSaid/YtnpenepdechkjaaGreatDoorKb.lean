/- Regions that draw their order: an operation that is not wanted may be taken first; the condition may be made stronger on the way. -/
import Derived.Test.YtnpenepdechkjaaGreatDoorMd
namespace Go.Proofs.YtnpenepdechkjaaGreatDoor
open Go
section
variable {P : Program} {ops : Array Oper} {Q : Exit → Act → World → Prop} {md : Region.Mode} {S T : World → Prop} {E : Nat → Bool}
theorem wpE_takeU {i : Nat} {oi : Oper} {d : Option Tmp} {n : Nat} {l : Array Bool} {a : Act} {w : World} (hi : ops[i]? = some oi) (hd : oi.dst = d)
    (hs : Region.noSelect ops = true) (hf : Region.free md ops l i = true) (hr : (Region.ready md ops l).contains i = true) (hE : E i = true)
    (hQ : ∀ c a w, Q (.panic c) (a.put d undef) w → Q (.panic c) a w) (hw : Region.wanted oi (yielded ops a.tmps) = false) (hT : T w)
    (h : wpE P md ops Q S T E n (l.setIfInBounds i true) (a.put d undef) w) : wpE P md ops Q S T E (n + 1) l a w := by
  subst hd
  exact wpE_first (U := T) hi (Region.noSelect_spec hs) hQ (fun _ _ hT => ⟨fun h => absurd (hE.symm.trans h) (by simp), hT⟩) n l a w (fun j oj hj hne hun hno => ⟨Region.free_spec hi hf j oj hj hne hun hno, fun w' hC => hC.2⟩) (by simpa using hr) (.inr ⟨hw, rfl⟩) hT hT h
theorem wpE_strong {T' : World → Prop} (hT : ∀ w, T' w → T w) : ∀ (n : Nat) (l : Array Bool) (a : Act) (w : World), wpE P md ops Q S T' E n l a w → wpE P md ops Q S T E n l a w
  | 0, _, _, _, h => h
  | n + 1, _, _, _, h => ⟨h.1, fun i hi => wpOp_mono (fun _ _ g => ⟨⟨g.1.1, hT _ g.1.2⟩, wpE_strong hT n _ _ _ g.2⟩) (h.2 i hi)⟩
end
end Go.Proofs.YtnpenepdechkjaaGreatDoor
