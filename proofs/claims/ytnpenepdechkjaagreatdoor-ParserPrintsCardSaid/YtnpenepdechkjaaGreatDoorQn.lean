/- The tokens of a tree are parsed as the tree. -/
import Derived.Test.YtnpenepdechkjaaGreatDoorQm
namespace Go.Proofs.YtnpenepdechkjaaGreatDoor
open Go

def wd (s : List UInt8) : Tk := ⟨1, 0, s, 0⟩
def sy (s : List UInt8) : Tk := ⟨4, 0, s, 0⟩
def tkO (s : List UInt8) : Tk := ⟨if s = wOr ∨ s = wAnd then 1 else 4, 0, s, 0⟩
def opK (l lv : Nat) (ts : List Tk) : List Tk := if l < lv then sy wOpen :: (ts ++ [sy wClose]) else ts
def tkN (k n : Int) (s : List UInt8) (ls : List Nat) (xs : List (List Tk)) : List Tk :=
 if k = 1 then [⟨2, 0, Lib.itoa n, n⟩]
 else if k = 2 then [wd (if n = 1 then wTrue else wFalse)]
 else if k = 3 then [⟨3, 0, 64 :: prL n.toNat, n⟩]
 else if k = 4 then [wd s]
 else if k = 5 then (if s = wNot then wd wNot else sy wMinus) :: opK (ls.getD 0 0) (lvN 5 s) (xs.getD 0 [])
 else if k = 9 then wd wIf :: (xs.getD 0 [] ++ wd wThen :: (xs.getD 1 [] ++ wd wElse :: (xs.getD 2 [] ++ [wd wEnd])))
 else if k = 10 then wd s :: sy wOpen :: (xs.getD 0 [] ++ (if xs.length = 2 then sy wComma :: (xs.getD 1 [] ++ [sy wClose]) else [sy wClose]))
 else if k = 7 then opK (ls.getD 0 0) 5 (xs.getD 0 []) ++ sy wPlus :: (opK (ls.getD 1 0) 6 (xs.getD 1 []) ++ [wd s])
 else if k = 8 then opK (ls.getD 0 0) 5 (xs.getD 0 []) ++ sy wMinus :: (opK (ls.getD 1 0) 6 (xs.getD 1 []) ++ [wd s])
 else opK (ls.getD 0 0) (leftL (lvOf s)) (xs.getD 0 []) ++ tkO s :: opK (ls.getD 1 0) (lvOf s + 1) (xs.getD 1 [])
mutual
def tkT : Tr → List Tk
 | .nd k n s ks => tkN k n s (ks.map lvT) (tkTs ks)
def tkTs : List Tr → List (List Tk)
 | [] => []
 | t :: ts => tkT t :: tkTs ts
end
/-- What the first token of a tree's tokens is not. -/
def FT (lv : Nat) (ts : List Tk) : Prop := ∃ t r, ts = t :: r ∧ (3 < lv → t.tx ≠ wNot) ∧ (7 < lv → t.tx ≠ wMinus)
theorem FT.of {lv : Nat} {t : Tk} {r : List Tk} (h1 : t.tx ≠ wNot) (h2 : t.tx ≠ wMinus) : FT lv (t :: r) := ⟨t, r, rfl, fun _ => h1, fun _ => h2⟩
theorem FT.op {l lv lv' : Nat} {ts us : List Tk} (h : FT l ts) (hl : lv' ≤ lv) : FT lv' (opK l lv ts ++ us) := by
 unfold opK
 split
 ·exact FT.of (by decide) (by decide)
 ·obtain ⟨t, r, rfl, h1, h2⟩ := h
  exact ⟨t, r ++ us, rfl, fun h => h1 (by omega), fun h => h2 (by omega)⟩
theorem hdc (t : Tk) (r : List Tk) : hd (t :: r) = t := rfl
@[simp] theorem wd_kd (s : List UInt8) : (wd s).kd = 1 := rfl
@[simp] theorem wd_tx (s : List UInt8) : (wd s).tx = s := rfl
@[simp] theorem sy_kd (s : List UInt8) : (sy s).kd = 4 := rfl
@[simp] theorem sy_tx (s : List UInt8) : (sy s).tx = s := rfl
theorem k12 : ¬ (1 : Int) = 2 := by decide
/-- Fuel. -/
def FU (f lv o : Nat) : Prop := 9 * (13 - o) + 9 ≤ f + lv
/-- From a level down to a lower one. -/
theorem desc {L o : Nat} {r rest : List Tk} {t : Tr} (hL : L ≤ 8) (ho : o ≤ 12) (hF : FT L r) (hX : ∀ f, FU f L o → exprP f L o r = .ok t rest) : ∀ (d lv f : Nat), lv + d = L → 1 ≤ lv → FU f lv o → lvOf (hd rest).tx < lv → exprP f lv o r = .ok t rest
 | 0, lv, f, hd0, h1, hf, hl => by
  obtain rfl : lv = L := by omega
  exact hX f hf
 | d + 1, lv, f, hd0, h1, hf, hl => by
  unfold FU at hf
  obtain ⟨f, rfl⟩ : ∃ g, f = g + 1 := ⟨f - 1, by omega⟩
  have ih := desc hL ho hF hX d (lv + 1) f (by omega) (by omega) (by unfold FU; omega) (by omega)
  obtain ⟨x, r', rfl, h3, h7⟩ := hF
  rw [exprP, stepP, if_neg, if_neg (by omega), ih, PR.bind_ok]
  ·cases hr : rest.length with
   | zero => rw [loopP]
   | succ g => rw [loopP, if_neg (by omega)]
  ·rw [hdc]
   rintro (⟨e, h⟩ | ⟨e, h⟩)
   ·exact h3 (by omega) h
   ·exact h7 (by omega) h
def PSr (B : Nat) (t : Tr) : Prop := ∀ lv o f rest, 1 ≤ lv → lv ≤ lvT t → B + o ≤ 12 → FU f lv o → lvOf (hd rest).tx < lv → (lv ≤ 5 → (hd rest).tx ∉ units) → exprP f lv o (tkT t ++ rest) = .ok t rest
def CH (B : Nat) (t : Tr) : Prop := ∀ L o f rest, (L = 1 ∨ L = 2 ∨ L = 5 ∨ L = 6) → L ≤ lvT t → B + o ≤ 12 → FU f (L + 1) o → lvOf (hd rest).tx ≤ L → (L ≤ 5 → (hd rest).tx ∉ units) →
 (exprP f (L + 1) o (tkT t ++ rest)).bind (fun n r2 => loopP (exprP f) L o r2.length n r2) = loopP (exprP f) L o rest.length t rest
theorem PSr.of {B : Nat} {t : Tr} (h8 : lvT t ≤ 8) (hF : FT (lvT t) (tkT t)) (h : ∀ o f rest, B + o ≤ 12 → FU f (lvT t) o → lvOf (hd rest).tx < lvT t → (lvT t ≤ 5 → (hd rest).tx ∉ units) → exprP f (lvT t) o (tkT t ++ rest) = .ok t rest) : PSr B t := by
 intro lv o f rest h1 hl hb hf hlo hu
 obtain ⟨x, r, hx, g1, g2⟩ := hF
 exact desc h8 (by omega) ⟨x, r ++ rest, by rw [hx]; rfl, g1, g2⟩ (fun f hf => h o f rest hb hf (by omega) (fun h => hu (by omega))) (lvT t - lv) lv f (by omega) h1 hf hlo
theorem CH.low {B : Nat} {t : Tr} (h : PSr B t) {L o f : Nat} {rest : List Tk} (hL : L + 1 ≤ lvT t) (hb : B + o ≤ 12) (hf : FU f (L + 1) o) (hl : lvOf (hd rest).tx ≤ L) (hu : L ≤ 5 → (hd rest).tx ∉ units) :
  (exprP f (L + 1) o (tkT t ++ rest)).bind (fun n r2 => loopP (exprP f) L o r2.length n r2) = loopP (exprP f) L o rest.length t rest := by
 rw [h (L + 1) o f rest (by omega) hL hb hf (by omega) (fun h => hu (by omega)), PR.bind_ok]
theorem CH.of {B : Nat} {t : Tr} (h : PSr B t) (h0 : lvT t ≠ 1 ∧ lvT t ≠ 2 ∧ lvT t ≠ 5 ∧ lvT t ≠ 6) : CH B t := fun L o f rest hL hl hb hf hlo hu => CH.low h (by omega) hb hf hlo hu
end Go.Proofs.YtnpenepdechkjaaGreatDoor
