/- Trees with the constructs that they may open: what the parser builds is such a tree. -/
import Derived.Test.YtnpenepdechkjaaGreatDoorQk
import Derived.Test.YtnpenepdechkjaaGreatDoorMe
namespace Go.Proofs.YtnpenepdechkjaaGreatDoor
open Go

/-- What is left of a budget for an operand of level l at a place that asks for lv. -/
def bud (l lv B : Nat) : Nat := if l < lv then B - 1 else B
theorem bud_mono {l lv B B' : Nat} (h : B ≤ B') : bud l lv B ≤ bud l lv B' := by unfold bud; split <;> omega
/-- Trees that can be printed, and parsed with a budget of constructs to open. -/
inductive GD : Nat → Tr → Prop
  | num (B : Nat) (n : Int) (h : 0 ≤ n ∧ n ≤ 2147483647) : GD B (.nd 1 n [] [])
  | bool (B : Nat) (n : Int) (h : n = 0 ∨ n = 1) : GD B (.nd 2 n [] [])
  | day (B : Nat) (n : Int) (h : 0 ≤ n ∧ n ≤ 3652058) : GD B (.nd 3 n [] [])
  | field (B : Nat) (s : List UInt8) (h : s ∈ fields) : GD B (.nd 4 0 s [])
  | una (B : Nat) (s : List UInt8) (a : Tr) (h : s = wNot ∨ s = wMinus) (hA : lvT a < lvN 5 s → 1 ≤ B) (ha : GD (bud (lvT a) (lvN 5 s) B) a) : GD (B + 1) (.nd 5 0 s [a])
  | bin (B : Nat) (s : List UInt8) (a b : Tr) (h : 1 ≤ lvOf s) (hA : lvT a < leftL (lvOf s) → 1 ≤ B) (hB : lvT b < lvOf s + 1 → 1 ≤ B) (ha : GD (bud (lvT a) (leftL (lvOf s)) B) a) (hb : GD (bud (lvT b) (lvOf s + 1) B) b) : GD B (.nd 6 0 s [a, b])
  | aft (B : Nat) (k : Int) (s : List UInt8) (a b : Tr) (hk : k = 7 ∨ k = 8) (h : s ∈ units) (hA : lvT a < 5 → 1 ≤ B) (hB : lvT b < 6 → 1 ≤ B) (ha : GD (bud (lvT a) 5 B) a) (hb : GD (bud (lvT b) 6 B) b) : GD B (.nd k 0 s [a, b])
  | ite (B : Nat) (a b c : Tr) (ha : GD B a) (hb : GD B b) (hc : GD B c) : GD (B + 1) (.nd 9 0 [] [a, b, c])
  | call1 (B : Nat) (s : List UInt8) (a : Tr) (h : s ∈ functions) (hs : argsN s = 1) (ha : GD B a) : GD (B + 1) (.nd 10 0 s [a])
  | call2 (B : Nat) (s : List UInt8) (a b : Tr) (h : s ∈ functions) (hs : argsN s = 2) (ha : GD B a) (hb : GD B b) : GD (B + 1) (.nd 10 0 s [a, b])
theorem GD.mono {B B' : Nat} {t : Tr} (h : GD B t) (hb : B ≤ B') : GD B' t := by
  induction h generalizing B' with
  | num B n h => exact .num _ n h
  | bool B n h => exact .bool _ n h
  | day B n h => exact .day _ n h
  | field B s h => exact .field _ s h
  | una B s a h hA ha ih =>
    obtain ⟨k, rfl⟩ : ∃ k, B' = k + 1 := ⟨B' - 1, by omega⟩
    exact .una k s a h (fun h => by have := hA h; omega) (ih (bud_mono (by omega)))
  | bin B s a b h hA hB ha hb iha ihb => exact .bin _ s a b h (fun h => by have := hA h; omega) (fun h => by have := hB h; omega) (iha (bud_mono (by omega))) (ihb (bud_mono (by omega)))
  | aft B k s a b hk h hA hB ha hb iha ihb => exact .aft _ k s a b hk h (fun h => by have := hA h; omega) (fun h => by have := hB h; omega) (iha (bud_mono (by omega))) (ihb (bud_mono (by omega)))
  | ite B a b c ha hb hc iha ihb ihc =>
    obtain ⟨k, rfl⟩ : ∃ k, B' = k + 1 := ⟨B' - 1, by omega⟩
    exact .ite k a b c (iha (by omega)) (ihb (by omega)) (ihc (by omega))
  | call1 B s a h hs ha iha =>
    obtain ⟨k, rfl⟩ : ∃ k, B' = k + 1 := ⟨B' - 1, by omega⟩
    exact .call1 k s a h hs (iha (by omega))
  | call2 B s a b h hs ha hb iha ihb =>
    obtain ⟨k, rfl⟩ : ∃ k, B' = k + 1 := ⟨B' - 1, by omega⟩
    exact .call2 k s a b h hs (iha (by omega)) (ihb (by omega))
theorem lvOf_le (s : List UInt8) : lvOf s ≤ 6 := by
  unfold lvOf
  split
  · decide
  split
  · decide
  split
  · decide
  split
  · decide
  split <;> decide
theorem lvN6 (s : List UInt8) : lvN 6 s = lvOf s := by unfold lvN; rw [if_pos rfl]
theorem lvN78 {k : Int} (s : List UInt8) (hk : k = 7 ∨ k = 8) : lvN k s = 5 := by
  unfold lvN
  rw [if_neg (by rcases hk with rfl | rfl <;> decide), if_pos hk]
theorem lvN5 (s : List UInt8) : lvN 5 s = if s = wNot then 3 else 7 := by
  unfold lvN
  rw [if_neg (by decide), if_neg (by decide), if_pos rfl]
theorem lvN_top {k : Int} (s : List UInt8) (h : k ≠ 6 ∧ k ≠ 7 ∧ k ≠ 8 ∧ k ≠ 5) : lvN k s = 8 := by
  unfold lvN
  rw [if_neg h.1, if_neg (fun e => by rcases e with e | e; exact h.2.1 e; exact h.2.2.1 e), if_neg h.2.2.2]
theorem GT.lv {t : Tr} (h : GT t) : 1 ≤ lvT t ∧ lvT t ≤ 8 := by
  cases h with
  | num n h => exact ⟨by rw [lvT, lvN_top _ (by decide)]; decide, by rw [lvT, lvN_top _ (by decide)]; decide⟩
  | bool n h => exact ⟨by rw [lvT, lvN_top _ (by decide)]; decide, by rw [lvT, lvN_top _ (by decide)]; decide⟩
  | day n h => exact ⟨by rw [lvT, lvN_top _ (by decide)]; decide, by rw [lvT, lvN_top _ (by decide)]; decide⟩
  | field s h => exact ⟨by rw [lvT, lvN_top _ (by decide)]; decide, by rw [lvT, lvN_top _ (by decide)]; decide⟩
  | una s a h ha => rw [lvT, lvN5]; split <;> decide
  | bin s a b h ha hb => rw [lvT, lvN6]; have := lvOf_le s; omega
  | aft k s a b hk h ha hb => rw [lvT, lvN78 _ hk]; decide
  | ite a b c ha hb hc => exact ⟨by rw [lvT, lvN_top _ (by decide)]; decide, by rw [lvT, lvN_top _ (by decide)]; decide⟩
  | call1 s a h hs ha => exact ⟨by rw [lvT, lvN_top _ (by decide)]; decide, by rw [lvT, lvN_top _ (by decide)]; decide⟩
  | call2 s a b h hs ha hb => exact ⟨by rw [lvT, lvN_top _ (by decide)]; decide, by rw [lvT, lvN_top _ (by decide)]; decide⟩
/-- An operand at a place that asks for a level. -/
def OD (lv B : Nat) (t : Tr) : Prop := (lvT t < lv → 1 ≤ B) ∧ GD (bud (lvT t) lv B) t
theorem OD.of {lv B : Nat} {t : Tr} (h : GD B t) (hl : lv ≤ lvT t) : OD lv B t := ⟨fun h => by omega, by unfold bud; rw [if_neg (by omega)]; exact h⟩
section
variable {ts : List Tk} (hW : Wts ts)
end
end Go.Proofs.YtnpenepdechkjaaGreatDoor
