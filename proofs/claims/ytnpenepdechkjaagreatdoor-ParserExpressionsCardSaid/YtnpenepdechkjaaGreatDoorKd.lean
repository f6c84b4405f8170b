/- The Maker's Any. -/
import Derived.Test.YtnpenepdechkjaaGreatDoorKc
import Derived.Test.YtnpenepdechkjaaGreatDoorKj
namespace Go.Proofs.YtnpenepdechkjaaGreatDoor
open Go Go.RowKit

/-- Nothing but the blocks b and g has turned. -/
structure Kp (b g : Nat) (W W' : World) : Prop where
  size : W.heap.size ≤ W'.heap.size
  keep : ∀ k, k ≠ b → k ≠ g → k < W.heap.size → W'.heap[k]? = W.heap[k]?
theorem Kp.refl (b g : Nat) (W : World) : Kp b g W W := ⟨Nat.le_refl _, fun _ _ _ _ => rfl⟩
theorem Kp.of_mv {b : Nat} (g : Nat) {W W' : World} (h : Mv b W W') : Kp b g W W' := ⟨h.size, fun k h1 _ h3 => h.keep k h1 h3⟩
theorem Kp.of_ext {b : Nat} (g : Nat) {W W' : World} (h : Ext W W') : Kp b g W W' := Kp.of_mv g (Mv.of_ext h)
theorem Kp.trans {b g : Nat} {W W' W'' : World} (h : Kp b g W W') (k : Kp b g W' W'') : Kp b g W W'' := ⟨Nat.le_trans h.size k.size, fun j h1 h2 h3 => (k.keep j h1 h2 (Nat.lt_of_lt_of_le h3 h.size)).trans (h.keep j h1 h2 h3)⟩
theorem Kp.set {b g : Nat} {W W' : World} (h : Kp b g W W') (i : Nat) (u : Value) : Kp b g W (W'.setCell ⟨g, i, none⟩ u) := ⟨by simpa using h.size, fun k h1 h2 h3 => (heap_setCell_other W' ⟨g, i, none⟩ k u h2).trans (h.keep k h1 h2 h3)⟩
theorem Kp.set4 {b g : Nat} {W : World} (x y z t : Value) : Kp b g W ((((W.setCell ⟨g, 0, none⟩ x).setCell ⟨g, 1, none⟩ y).setCell ⟨g, 2, none⟩ z).setCell ⟨g, 3, none⟩ t) := ((((Kp.refl b g W).set 0 x).set 1 y).set 2 z).set 3 t
def ZN : Nat → Nat
  | 0 => 1
  | d + 1 => 1 + 3 * ZN d
def GAny (d : Nat) (t : Tr) : Prop := GD (2 * d) t ∧ tsz t ≤ ZN d
theorem ZN_pos (d : Nat) : 1 ≤ ZN d := by cases d <;> simp [ZN]
theorem GAny.leaf {d : Nat} {k n : Int} {s : List UInt8} (h : GD (2 * d) (.nd k n s [])) : GAny d (.nd k n s []) := ⟨h, by have := ZN_pos d; simp [tsz, tszs]; omega⟩
theorem HT.kids1 {W X : World} {d : Nd} {t : Tr} (h : HT W X d t) : ∀ (i : Nat) (h : Nd) (t' : Tr), [d][i]? = some h → [t][i]? = some t' → HT W X h t' := fun i h' t' h1 h2 => by
  have hi : i < 1 := (List.getElem?_eq_some_iff.1 h1).1
  obtain rfl : i = 0 := by omega
  simp only [List.getElem?_cons_zero, Option.some.injEq] at h1 h2
  subst h1 h2
  exact h
theorem HT.kids2 {W X : World} {d d2 : Nd} {t t2 : Tr} (h : HT W X d t) (h2 : HT W X d2 t2) : ∀ (i : Nat) (h : Nd) (t' : Tr), [d, d2][i]? = some h → [t, t2][i]? = some t' → HT W X h t' := fun i h' t' g1 g2 => by
  have hi : i < 2 := (List.getElem?_eq_some_iff.1 g1).1
  rcases (by omega : i = 0 ∨ i = 1) with rfl | rfl
  · simp only [List.getElem?_cons_zero, Option.some.injEq] at g1 g2
    subst g1 g2
    exact h
  · simp only [List.getElem?_cons_succ, List.getElem?_cons_zero, Option.some.injEq] at g1 g2
    subst g1 g2
    exact h2
theorem HT.kids3 {W X : World} {d d2 d3 : Nd} {t t2 t3 : Tr} (h : HT W X d t) (h2 : HT W X d2 t2) (h3 : HT W X d3 t3) : ∀ (i : Nat) (h : Nd) (t' : Tr), [d, d2, d3][i]? = some h → [t, t2, t3][i]? = some t' → HT W X h t' := fun i h' t' g1 g2 => by
  have hi : i < 3 := (List.getElem?_eq_some_iff.1 g1).1
  rcases (by omega : i = 0 ∨ i = 1 ∨ i = 2) with rfl | rfl | rfl
  · simp only [List.getElem?_cons_zero, Option.some.injEq] at g1 g2
    subst g1 g2
    exact h
  · simp only [List.getElem?_cons_succ, List.getElem?_cons_zero, Option.some.injEq] at g1 g2
    subst g1 g2
    exact h2
  · simp only [List.getElem?_cons_succ, List.getElem?_cons_zero, Option.some.injEq] at g1 g2
    subst g1 g2
    exact h3
def opl : List (List UInt8) := [wOr, wAnd, wLt, wLe, wEq, wNe, wGt, wGe, wPlus, wMinus, wStar]
end Go.Proofs.YtnpenepdechkjaaGreatDoor
