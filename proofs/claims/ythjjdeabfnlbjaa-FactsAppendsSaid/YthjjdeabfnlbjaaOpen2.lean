/- An argument that is a version by value, opened. -/
import Derived.Test.YthjjdeabfnlbjaaOpen
import Derived.ProofKit
namespace Go.Proofs.Ythjjdeabfnlbjaa
open Go Go.RowKit Go.WideShapes Go.ChangeShapes Go.Deep

theorem open_val {H : Type} {enc : TypeId × Value → H} {w : World} {base : Nat} {spare : Nat → Bool} {held : Bool} {r : Reach} {b0 : Nat} {v : Value} {d : DataW H} {p : List MemPlace} (hv : Value.okWide Try.prog w r b0 32 v) (h : DataW.Trod enc Try.prog w base spare held 32 v d p) :
    ∃ u : Vr, v = u.val ∧ u.fc.kd.size ≤ maxLen := by
  obtain ⟨cs, rfl, hsz⟩ := okWide_struct str32 hv
  obtain ⟨fuel, hf⟩ := h
  have hc : (Value.agg cs).cells.toList = cs.toList := by simp [Value.cells]
  rw [hc] at hf
  obtain ⟨u, h1, h2⟩ := open_ver hf
  refine ⟨u, ?_, h2⟩
  have h3 : cs = u.cells.toArray := by rw [← h1]
  rw [h3]
  rfl
end Go.Proofs.Ythjjdeabfnlbjaa
