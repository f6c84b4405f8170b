/- The reference's Of. -/
import Derived.Test.YtnpenepdechkjaaGreatDoorMg
import Derived.Test.YtnpenepdechkjaaGreatDoorQk
import Derived.Test.YtnpenepdechkjaaGreatDoorMh
namespace Go.Proofs.YtnpenepdechkjaaGreatDoor
open Go Go.RowKit

/-- A date in a block of its own, whole. -/
def DX (W : World) (g : Nat) (y m d : Int) : Prop := W.heap[g]? = some (.cells #[.int .i64 y, .int .i64 m, .int .i64 d] 110 (0, 0))
theorem DX.cs {W : World} {g : Nat} {y m d : Int} (h : DX W g y m d) : g < W.heap.size ∧ W.cell? ⟨g, 0, none⟩ = some (.int .i64 y) ∧ W.cell? ⟨g, 1, none⟩ = some (.int .i64 m) ∧ W.cell? ⟨g, 2, none⟩ = some (.int .i64 d) ∧ W.frozen? ⟨g, 0, none⟩ = false ∧ W.frozen? ⟨g, 1, none⟩ = false ∧ W.frozen? ⟨g, 2, none⟩ = false :=
  ⟨lt_of_block h, by rw [cell_of_row W _ _ _ 110 (0, 0) h]; rfl, by rw [cell_of_row W _ _ _ 110 (0, 0) h]; rfl, by rw [cell_of_row W _ _ _ 110 (0, 0) h]; rfl, frozen_of_row W _ _ _ 110 h, frozen_of_row W _ _ _ 110 h, frozen_of_row W _ _ _ 110 h⟩
theorem DX.ext {W W' : World} {g : Nat} {y m d : Int} (h : DX W g y m d) (hx : Ext W W') : DX W' g y m d := (hx.block g (lt_of_block h)).trans h
theorem DX.other {W : World} {g : Nat} {y m d : Int} (h : DX W g y m d) {p : Addr} (hp : g ≠ p.block) (u : Value) : DX (W.setCell p u) g y m d := (heap_setCell_other W p g u hp).trans h
theorem DX.s0 {W : World} {g : Nat} {y m d : Int} (h : DX W g y m d) (z : Int) : DX (W.setCell ⟨g, 0, none⟩ (.int .i64 z)) g z m d := (heap_setCell_same W g 0 _ 110 _ h).trans rfl
theorem DX.s1 {W : World} {g : Nat} {y m d : Int} (h : DX W g y m d) (z : Int) : DX (W.setCell ⟨g, 1, none⟩ (.int .i64 z)) g y z d := (heap_setCell_same W g 1 _ 110 _ h).trans rfl
theorem DX.s2 {W : World} {g : Nat} {y m d : Int} (h : DX W g y m d) (z : Int) : DX (W.setCell ⟨g, 2, none⟩ (.int .i64 z)) g y m z := (heap_setCell_same W g 2 _ 110 _ h).trans rfl
/-! ### Plain law -/
end Go.Proofs.YtnpenepdechkjaaGreatDoor
