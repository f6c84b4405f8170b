/- Parentheses around a tree's tokens. -/
import Derived.Test.YtnpenepdechkjaaGreatDoorQp
namespace Go.Proofs.YtnpenepdechkjaaGreatDoor
open Go

/-- Tokens that an expression is read from, whatever follows that goes on with no expression. -/
def PX (B : Nat) (ts : List Tk) (t : Tr) : Prop := ∀ o f rest, B + o ≤ 12 → FU f 1 o → lvOf (hd rest).tx = 0 → (hd rest).tx ∉ units → exprP f 1 o (ts ++ rest) = .ok t rest
theorem PX.tree {B : Nat} {t : Tr} (h : GD B t) : PX B (tkT t) t := fun o f rest hb hf h1 h2 => (tree_tk h).1 1 o f rest (Nat.le_refl _) (GT.lv h.gt).1 hb hf (by rw [h1]; decide) (fun _ => h2)
theorem PX.paren {B : Nat} {ts : List Tk} {t : Tr} (h : PX B ts t) : PX (B + 1) (sy wOpen :: (ts ++ [sy wClose])) t := fun o f rest hb hf h1 h2 => by
  have e : sy wOpen :: (ts ++ [sy wClose]) ++ rest = sy wOpen :: (ts ++ sy wClose :: rest) := by simp
  rw [e]
  refine desc (L := 8) (Nat.le_refl _) (by omega) (FT.of (by decide) (by decide)) (fun f hf => ?_) 7 1 f rfl (Nat.le_refl _) hf (by rw [h1]; decide)
  unfold FU at hf
  obtain ⟨f, rfl⟩ : ∃ g, f = g + 1 := ⟨f - 1, by omega⟩
  have h3 := h (o + 1) f (sy wClose :: rest) (by omega) (by unfold FU; omega) (by rw [hdc]; decide) (by rw [hdc]; decide)
  rw [exprP, stepP, if_neg (by omega), if_pos rfl, primP, hdc, if_neg (show ¬ (sy wOpen).kd = 2 from k42), if_neg (show ¬ (sy wOpen).kd = 3 from k43), if_neg (show ¬ (sy wOpen).tx = wTrue by decide), if_neg (show ¬ (sy wOpen).tx = wFalse by decide), if_pos (sy_tx wOpen), opens_eq _ _ _ _ (sy_tx _) (by omega), PR.bind_ok, h3, PR.bind_ok, must_eq _ _ _ (sy_tx _), PR.bind_ok]
theorem PX.ex {B : Nat} {ts : List Tk} {t : Tr} (h : PX B ts t) (hB : B ≤ 12) : EX (ts ++ [endT 0]) = .ok t [endT 0] := h 0 40000 [endT 0] (by omega) (by unfold FU; decide) (by decide) (by decide)
theorem Lx.paren {x : List UInt8} {ts : List Tk} (h : Lx x ts) : Lx (40 :: (x ++ [41])) (sy wOpen :: (ts ++ [sy wClose])) :=
  LxA.cons (c := 40) (lx_sym (by decide)) (h.cat (c := 41) (y := []) (by decide) (lx_sym (c := 41) (by decide)).lx)
/-- The texts of the law of parentheses, and what they are parsed as. -/
def parW (t : Tr) (j : Nat) : List UInt8 := if j = 0 then showT t else if j = 1 then 40 :: (showT t ++ [41]) else 40 :: 40 :: (showT t ++ [41, 41])
theorem par_parse {t : Tr} (h : GD 6 t) (hl : (showT t).length ≤ 3000) (j : Nat) : parseE (parW t j) = (t, 0, 0) := by
  have h0 := lx_show h.gt
  unfold parW
  split
  · exact expr_of h0 (by omega) ((PX.tree h).ex (by decide))
  split
  · exact expr_of h0.paren (by simp; omega) ((PX.tree h).paren.ex (by decide))
  · have e : (40 :: 40 :: (showT t ++ [41, 41]) : List UInt8) = 40 :: (40 :: (showT t ++ [41]) ++ [41]) := by simp
    rw [e]
    exact expr_of h0.paren.paren (by simp; omega) ((PX.tree h).paren.paren.ex (by decide))
theorem par_next {t : Tr} (h : GD 6 t) (hl : (showT t).length ≤ 3000) : parseE ([110, 101, 120, 116, 40] ++ showT t ++ [41]) = (.nd 10 0 wNext [t], 0, 0) := by
  have h7 : GD 7 (.nd 10 0 wNext [t]) := .call1 6 wNext t (by decide) (by decide) h
  have e : [110, 101, 120, 116, 40] ++ showT t ++ [41] = showT (.nd 10 0 wNext [t]) := by simp [showT, showTs, showN, Lib.join_cons, Lib.joinTail, wNext]
  rw [e]
  exact expr_of (lx_show h7.gt) (by rw [← e]; simp; omega) ((PX.tree h7).ex (by decide))
end Go.Proofs.YtnpenepdechkjaaGreatDoor
