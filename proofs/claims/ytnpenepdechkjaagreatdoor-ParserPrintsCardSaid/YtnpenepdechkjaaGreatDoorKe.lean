/- The law's tree. -/
import Derived.Test.YtnpenepdechkjaaGreatDoorKd
namespace Go.Proofs.YtnpenepdechkjaaGreatDoor
open Go Go.RowKit

theorem SL.takeN {α : Type} {cf : α → List Value} {sz : Nat} {W : World} {A : Option Addr} {n : Nat} {l : List α} (h : SL cf sz W A n l) (m : Nat) (hm : m ≤ n) : SL cf sz W A m (l.take m) := by
 obtain ⟨h1, h2⟩ := h
 refine ⟨by rw [List.length_take]; omega, fun h0 => ?_⟩
 obtain ⟨b, off, e, hb, hc⟩ := h2 (by omega)
 refine ⟨b, off, e, hb, fun i x hx j u hu => hc i x ?_ j u hu⟩
 rw [List.getElem?_take] at hx
 split at hx
 ·exact hx
 ·cases hx
end Go.Proofs.YtnpenepdechkjaaGreatDoor
