/- The laws of regions that draw their order, shorter to name: what the kernel reckons is an argument that fills itself. -/
import Derived.Test.YtnpenepdechkjaaGreatDoorKb
namespace Go.Proofs.YtnpenepdechkjaaGreatDoor
open Go
theorem sA {α : Type} (l : List α) (i : Nat) (a : α) : l.toArray.setIfInBounds i a = (l.set i a).toArray := List.setIfInBounds_toArray ..
theorem sZ {α : Type} (x : α) (l : List α) (a : α) : (x :: l).set 0 a = a :: l := rfl
theorem sS {α : Type} (x : α) (l : List α) (n : Nat) (a : α) : (x :: l).set (n + 1) a = x :: l.set n a := rfl
theorem gA {α : Type} (l : List α) (i : Nat) (h : i < l.toArray.size) : l.toArray[i] = l[i]'(by simpa using h) := List.getElem_toArray ..
theorem gZ {α : Type} (x : α) (l : List α) (h : 0 < (x :: l).length) : (x :: l)[0] = x := rfl
theorem gS {α : Type} (x : α) (l : List α) (n : Nat) (h : n + 1 < (x :: l).length) : (x :: l)[n + 1] = l[n]'(by simpa using h) := rfl
section
variable {P : Program} {ops : Array Oper} {Q : Exit → Act → World → Prop} {md : Region.Mode} {S T : World → Prop} {E : Nat → Bool}
theorem tkA {i : Nat} {oi : Oper} {d : Option Tmp} {v : Value} {n : Nat} {l : Array Bool} {a : Act} {w : World} (hT : T w) (hy : ∀ w, T w → (execOp a.eval oi).run P w = .ok (.value v) w)
    (h : wpE P md ops Q S T E n (l.setIfInBounds i true) (a.put d v) w) (hi : ops[i]? = some oi := by rfl) (hd : oi.dst = d := by rfl)
    (hs : Region.noSelect ops = true := by kernel_rfl) (hf : Region.free md ops l i = true := by kernel_rfl) (hr : (Region.ready md ops l).contains i = true := by kernel_rfl) (hE : E i = true := by rfl)
    (hQ : ∀ c a w, Q (.panic c) (a.put d v) w → Q (.panic c) a w := by exact fun _ _ _ h => h) (hw : Region.wanted oi (yielded ops a.tmps) = true := by rfl) : wpE P md ops Q S T E (n + 1) l a w :=
  wpE_takeT hi hd hs hf hr hE hQ hw hy hT h
/-- One operation alone may come up. -/
theorem one {i : Nat} {o : Oper} {n : Nat} {l : Array Bool} {a : Act} {w : World} (h : ∀ K : Act → World → Prop, NextE P md ops Q S T E n l i K → if Region.wanted o (yielded ops a.tmps) = true then Oper.wp P o a w K Q else K (a.put o.dst undef) w)
    (ho : ops[i]? = some o := by rfl) (hr : Region.ready md ops l = [i] := by kernel_rfl) : wpE P md ops Q S T E (n + 1) l a w :=
  wpE_all hr (by simp) (AllE.cons ho h AllE.nil)
/-- What follows, with a new base for the condition. -/
theorem NextE.go {Z : World → World → Prop} {n : Nat} {l : Array Bool} {i : Nat} {K : Act → World → Prop} {u u' : World} {a : Act} (hK : NextE P md ops Q (fun _ => True) (fun X => Z u X) E n l i K) (hz : Z u u') (ht : ∀ X, Z u' X → Z u X)
    (h : wpE P md ops Q (fun _ => True) (fun X => Z u' X) E n (l.setIfInBounds i true) a u') : K a u' :=
  hK.out a u' ⟨fun _ => trivial, hz⟩ fun _ => wpE_strong ht n _ _ _ h
end
end Go.Proofs.YtnpenepdechkjaaGreatDoor
