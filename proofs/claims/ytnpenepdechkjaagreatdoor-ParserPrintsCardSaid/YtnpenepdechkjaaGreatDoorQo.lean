/- The printed text of a tree has the tree's tokens. -/
import Derived.Test.YtnpenepdechkjaaGreatDoorQn
namespace Go.Proofs.YtnpenepdechkjaaGreatDoor
open Go

def eX (s : List UInt8) : Int := (lexW 0 s).e
def tX (s : List UInt8) : List (Int × List UInt8 × Int) := (lexW 0 s).l.map tri
/-- x is read as the tokens ts, whatever follows that ends a token. -/
def Lx (x : List UInt8) (ts : List Tk) : Prop := ∀ u, SepHead u → eX (x ++ u) = eX u ∧ (eX u = 0 → tX (x ++ u) = ts.map tri ++ tX u)
/-- x is read as the tokens ts, whatever follows. -/
def LxA (x : List UInt8) (ts : List Tk) : Prop := ∀ u, eX (x ++ u) = eX u ∧ (eX u = 0 → tX (x ++ u) = ts.map tri ++ tX u)
theorem LxA.nil : LxA [] [] := fun _ => ⟨rfl, fun _ => rfl⟩
theorem LxA.cat {x y : List UInt8} {ts us : List Tk} (h : LxA x ts) (k : Lx y us) : Lx (x ++ y) (ts ++ us) := fun u hu => by
 obtain ⟨a1, a2⟩ := k u hu
 obtain ⟨b1, b2⟩ := h (y ++ u)
 rw [List.append_assoc, List.map_append, List.append_assoc]
 exact ⟨b1.trans a1, fun h0 => by rw [b2 (a1.trans h0), a2 h0]⟩
theorem LxA.cons {c : UInt8} {y : List UInt8} {ts us : List Tk} (h : LxA [c] ts) (k : Lx y us) : Lx (c :: y) (ts ++ us) := h.cat k
theorem Lx.cat {x y : List UInt8} {c : UInt8} {ts us : List Tk} (h : Lx x ts) (hc : sepc c = true) (k : Lx (c :: y) us) : Lx (x ++ c :: y) (ts ++ us) := fun u hu => by
 obtain ⟨a1, a2⟩ := k u hu
 obtain ⟨b1, b2⟩ := h (c :: y ++ u) (fun d hd => by
  obtain rfl : c = d := by simpa using hd
  exact hc)
 rw [List.append_assoc, List.map_append, List.append_assoc]
 exact ⟨b1.trans a1, fun h0 => by rw [b2 (a1.trans h0), a2 h0]⟩
theorem words_ok : ∀ s ∈ reserved, tok1 s = .ok 1 s.length 0 ∧ s ≠ [] := by
 intro s hs
 simp only [reserved, words, units, fields, functions, List.cons_append, List.nil_append, List.mem_cons, List.not_mem_nil, or_false] at hs
 rcases hs with rfl | rfl | rfl | rfl | rfl | rfl | rfl | rfl | rfl | rfl | rfl | rfl | rfl | rfl | rfl | rfl | rfl | rfl | rfl | rfl | rfl | rfl | rfl | rfl | rfl | rfl | rfl | rfl | rfl | rfl <;> exact ⟨rfl, by decide⟩
theorem res_of {s : List UInt8} (h : s ∈ units ∨ s ∈ fields ∨ s ∈ functions) : s ∈ reserved := by
 unfold reserved
 rcases h with h | h | h
 ·exact List.mem_append_right _ (List.mem_append_left _ h)
 ·exact List.mem_append_right _ (List.mem_append_right _ (List.mem_append_left _ h))
 ·exact List.mem_append_right _ (List.mem_append_right _ (List.mem_append_right _ h))
theorem shw_aft {k : Int} (n : Int) (s : List UInt8) (a b : Tr) (hk : k = 7 ∨ k = 8) : showT (.nd k n s [a, b]) = opL (lvT a) 5 (showT a) ++ [32] ++ (if k = 8 then wMinus else wPlus) ++ [32] ++ (opL (lvT b) 6 (showT b) ++ [32] ++ s) := by
 rcases hk with rfl | rfl
 ·have h5 : lvN 7 s = 5 := lvN78 s (.inl rfl)
  simp [showT, showTs, showN, h5, leftL, wPlus]
 ·have h5 : lvN 8 s = 5 := lvN78 s (.inr rfl)
  simp [showT, showTs, showN, h5, leftL, wMinus]
end Go.Proofs.YtnpenepdechkjaaGreatDoor
