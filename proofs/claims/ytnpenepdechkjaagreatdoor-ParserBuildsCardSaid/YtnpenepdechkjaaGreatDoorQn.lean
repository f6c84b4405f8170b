/- The tokens of a tree are parsed as the tree. -/
import Derived.Test.YtnpenepdechkjaaGreatDoorQm
namespace Go.Proofs.YtnpenepdechkjaaGreatDoor
open Go

def wd (s : List UInt8) : Tk := ⟨1, 0, s, 0⟩
def sy (s : List UInt8) : Tk := ⟨4, 0, s, 0⟩
def tkO (s : List UInt8) : Tk := ⟨if s = wOr ∨ s = wAnd then 1 else 4, 0, s, 0⟩
def opK (l lv : Nat) (ts : List Tk) : List Tk := if l < lv then sy wOpen :: (ts ++ [sy wClose]) else ts
def tkN (k n : Int) (s : List UInt8) (ls : List Nat) (xs : List (List Tk)) : List Tk :=
  if k = 1 then [⟨2, 0, Lib.itoa n, n⟩]
  else if k = 2 then [wd (if n = 1 then wTrue else wFalse)]
  else if k = 3 then [⟨3, 0, 64 :: prL n.toNat, n⟩]
  else if k = 4 then [wd s]
  else if k = 5 then (if s = wNot then wd wNot else sy wMinus) :: opK (ls.getD 0 0) (lvN 5 s) (xs.getD 0 [])
  else if k = 9 then wd wIf :: (xs.getD 0 [] ++ wd wThen :: (xs.getD 1 [] ++ wd wElse :: (xs.getD 2 [] ++ [wd wEnd])))
  else if k = 10 then wd s :: sy wOpen :: (xs.getD 0 [] ++ (if xs.length = 2 then sy wComma :: (xs.getD 1 [] ++ [sy wClose]) else [sy wClose]))
  else if k = 7 then opK (ls.getD 0 0) 5 (xs.getD 0 []) ++ sy wPlus :: (opK (ls.getD 1 0) 6 (xs.getD 1 []) ++ [wd s])
  else if k = 8 then opK (ls.getD 0 0) 5 (xs.getD 0 []) ++ sy wMinus :: (opK (ls.getD 1 0) 6 (xs.getD 1 []) ++ [wd s])
  else opK (ls.getD 0 0) (leftL (lvOf s)) (xs.getD 0 []) ++ tkO s :: opK (ls.getD 1 0) (lvOf s + 1) (xs.getD 1 [])
mutual
def tkT : Tr → List Tk
  | .nd k n s ks => tkN k n s (ks.map lvT) (tkTs ks)
def tkTs : List Tr → List (List Tk)
  | [] => []
  | t :: ts => tkT t :: tkTs ts
end
theorem tk_num (n : Int) (s : List UInt8) (ks : List Tr) : tkT (.nd 1 n s ks) = [⟨2, 0, Lib.itoa n, n⟩] := by simp [tkT, tkN]
theorem tk_bool (n : Int) (s : List UInt8) (ks : List Tr) : tkT (.nd 2 n s ks) = [wd (if n = 1 then wTrue else wFalse)] := by simp [tkT, tkN]
theorem tk_day (n : Int) (s : List UInt8) (ks : List Tr) : tkT (.nd 3 n s ks) = [⟨3, 0, 64 :: prL n.toNat, n⟩] := by simp [tkT, tkN]
theorem tk_field (n : Int) (s : List UInt8) (ks : List Tr) : tkT (.nd 4 n s ks) = [wd s] := by simp [tkT, tkN]
theorem tk_una (n : Int) (s : List UInt8) (a : Tr) : tkT (.nd 5 n s [a]) = (if s = wNot then wd wNot else sy wMinus) :: opK (lvT a) (lvN 5 s) (tkT a) := by simp [tkT, tkTs, tkN]
theorem tk_ite (n : Int) (s : List UInt8) (a b c : Tr) : tkT (.nd 9 n s [a, b, c]) = wd wIf :: (tkT a ++ wd wThen :: (tkT b ++ wd wElse :: (tkT c ++ [wd wEnd]))) := by simp [tkT, tkTs, tkN]
theorem tk_call1 (n : Int) (s : List UInt8) (a : Tr) : tkT (.nd 10 n s [a]) = wd s :: sy wOpen :: (tkT a ++ [sy wClose]) := by simp [tkT, tkTs, tkN]
theorem tk_call2 (n : Int) (s : List UInt8) (a b : Tr) : tkT (.nd 10 n s [a, b]) = wd s :: sy wOpen :: (tkT a ++ sy wComma :: (tkT b ++ [sy wClose])) := by simp [tkT, tkTs, tkN]
theorem tk_aft {k : Int} (n : Int) (s : List UInt8) (a b : Tr) (hk : k = 7 ∨ k = 8) : tkT (.nd k n s [a, b]) = opK (lvT a) 5 (tkT a) ++ sy (if k = 8 then wMinus else wPlus) :: (opK (lvT b) 6 (tkT b) ++ [wd s]) := by
  rcases hk with rfl | rfl
  · simp [tkT, tkTs, tkN]
  · simp [tkT, tkTs, tkN]
theorem tk_bin (n : Int) (s : List UInt8) (a b : Tr) : tkT (.nd 6 n s [a, b]) = opK (lvT a) (leftL (lvOf s)) (tkT a) ++ tkO s :: opK (lvT b) (lvOf s + 1) (tkT b) := by simp [tkT, tkTs, tkN]
/-- What the first token of a tree's tokens is not. -/
def FT (lv : Nat) (ts : List Tk) : Prop := ∃ t r, ts = t :: r ∧ (3 < lv → t.tx ≠ wNot) ∧ (7 < lv → t.tx ≠ wMinus)
theorem FT.of {lv : Nat} {t : Tk} {r : List Tk} (h1 : t.tx ≠ wNot) (h2 : t.tx ≠ wMinus) : FT lv (t :: r) := ⟨t, r, rfl, fun _ => h1, fun _ => h2⟩
theorem FT.op {l lv lv' : Nat} {ts us : List Tk} (h : FT l ts) (hl : lv' ≤ lv) : FT lv' (opK l lv ts ++ us) := by
  unfold opK
  split
  · exact FT.of (by decide) (by decide)
  · obtain ⟨t, r, rfl, h1, h2⟩ := h
    exact ⟨t, r ++ us, rfl, fun h => h1 (by omega), fun h => h2 (by omega)⟩
theorem hdc (t : Tk) (r : List Tk) : hd (t :: r) = t := rfl
@[simp] theorem wd_kd (s : List UInt8) : (wd s).kd = 1 := rfl
@[simp] theorem wd_tx (s : List UInt8) : (wd s).tx = s := rfl
@[simp] theorem sy_kd (s : List UInt8) : (sy s).kd = 4 := rfl
@[simp] theorem sy_tx (s : List UInt8) : (sy s).tx = s := rfl
theorem must_eq (s : List UInt8) (t : Tk) (r : List Tk) (h : t.tx = s) : mustP s (t :: r) = .ok () r := by unfold mustP; rw [hdc, if_pos h]; rfl
theorem opens_eq (s : List UInt8) (o : Nat) (t : Tk) (r : List Tk) (h : t.tx = s) (ho : o ≠ 12) : opensP s o (t :: r) = .ok () r := by unfold opensP; rw [hdc, if_pos h, if_neg ho]; rfl
theorem k12 : ¬ (1 : Int) = 2 := by decide
theorem k13 : ¬ (1 : Int) = 3 := by decide
theorem k42 : ¬ (4 : Int) = 2 := by decide
theorem k43 : ¬ (4 : Int) = 3 := by decide
/-- Fuel. -/
def FU (f lv o : Nat) : Prop := 9 * (13 - o) + 9 ≤ f + lv
/-- From a level down to a lower one. -/
theorem desc {L o : Nat} {r rest : List Tk} {t : Tr} (hL : L ≤ 8) (ho : o ≤ 12) (hF : FT L r) (hX : ∀ f, FU f L o → exprP f L o r = .ok t rest) : ∀ (d lv f : Nat), lv + d = L → 1 ≤ lv → FU f lv o → lvOf (hd rest).tx < lv → exprP f lv o r = .ok t rest
  | 0, lv, f, hd0, h1, hf, hl => by
    obtain rfl : lv = L := by omega
    exact hX f hf
  | d + 1, lv, f, hd0, h1, hf, hl => by
    unfold FU at hf
    obtain ⟨f, rfl⟩ : ∃ g, f = g + 1 := ⟨f - 1, by omega⟩
    have ih := desc hL ho hF hX d (lv + 1) f (by omega) (by omega) (by unfold FU; omega) (by omega)
    obtain ⟨x, r', rfl, h3, h7⟩ := hF
    rw [exprP, stepP, if_neg, if_neg (by omega), ih, PR.bind_ok]
    · cases hr : rest.length with
      | zero => rw [loopP]
      | succ g => rw [loopP, if_neg (by omega)]
    · rw [hdc]
      rintro (⟨e, h⟩ | ⟨e, h⟩)
      · exact h3 (by omega) h
      · exact h7 (by omega) h
def PSr (B : Nat) (t : Tr) : Prop := ∀ lv o f rest, 1 ≤ lv → lv ≤ lvT t → B + o ≤ 12 → FU f lv o → lvOf (hd rest).tx < lv → (lv ≤ 5 → (hd rest).tx ∉ units) → exprP f lv o (tkT t ++ rest) = .ok t rest
def CH (B : Nat) (t : Tr) : Prop := ∀ L o f rest, (L = 1 ∨ L = 2 ∨ L = 5 ∨ L = 6) → L ≤ lvT t → B + o ≤ 12 → FU f (L + 1) o → lvOf (hd rest).tx ≤ L → (L ≤ 5 → (hd rest).tx ∉ units) →
  (exprP f (L + 1) o (tkT t ++ rest)).bind (fun n r2 => loopP (exprP f) L o r2.length n r2) = loopP (exprP f) L o rest.length t rest
/-- Parentheses. -/
theorem paren {B : Nat} {t : Tr} (h : PSr B t) (h1 : 1 ≤ lvT t) {lv o f : Nat} {rest : List Tk} (hlv : 1 ≤ lv) (hlv8 : lv ≤ 8) (hb : B + 1 + o ≤ 12) (hf : FU f lv o) (hl : lvOf (hd rest).tx < lv) : exprP f lv o (sy wOpen :: (tkT t ++ sy wClose :: rest)) = .ok t rest := by
  refine desc (L := 8) (Nat.le_refl _) (by omega) (FT.of (by decide) (by decide)) (fun f hf => ?_) (8 - lv) lv f (by omega) hlv hf hl
  unfold FU at hf
  obtain ⟨f, rfl⟩ : ∃ g, f = g + 1 := ⟨f - 1, by omega⟩
  have h2 := h 1 (o + 1) f (sy wClose :: rest) (Nat.le_refl _) h1 (by omega) (by unfold FU; omega) (by rw [hdc]; decide) (fun _ => by rw [hdc]; decide)
  rw [exprP, stepP, if_neg (by omega), if_pos rfl, primP, hdc, if_neg (show ¬ (sy wOpen).kd = 2 from k42), if_neg (show ¬ (sy wOpen).kd = 3 from k43), if_neg (show ¬ (sy wOpen).tx = wTrue by decide), if_neg (show ¬ (sy wOpen).tx = wFalse by decide), if_pos (sy_tx wOpen), opens_eq _ _ _ _ (sy_tx _) (by omega), PR.bind_ok, h2, PR.bind_ok, must_eq _ _ _ (sy_tx _), PR.bind_ok]
theorem opK_app (l lv : Nat) (ts rest : List Tk) : opK l lv ts ++ rest = if l < lv then sy wOpen :: (ts ++ sy wClose :: rest) else ts ++ rest := by
  unfold opK
  split <;> simp
/-- An operand. -/
theorem operandK {B lv : Nat} {t : Tr} (hB : lvT t < lv → 1 ≤ B) (h : PSr (bud (lvT t) lv B) t) (h1 : 1 ≤ lvT t) {o f : Nat} {rest : List Tk} (hlv : 1 ≤ lv) (hlv8 : lv ≤ 8) (hb : B + o ≤ 12) (hf : FU f lv o) (hl : lvOf (hd rest).tx < lv) (hu : lv ≤ 5 → (hd rest).tx ∉ units) :
    exprP f lv o (opK (lvT t) lv (tkT t) ++ rest) = .ok t rest := by
  rw [opK_app]
  by_cases hc : lvT t < lv
  · have := hB hc
    unfold bud at h
    rw [if_pos hc] at h ⊢
    exact paren h h1 hlv hlv8 (by omega) hf hl
  · unfold bud at h
    rw [if_neg hc] at h ⊢
    exact h lv o f rest hlv (by omega) hb hf hl hu
theorem PSr.of {B : Nat} {t : Tr} (h8 : lvT t ≤ 8) (hF : FT (lvT t) (tkT t)) (h : ∀ o f rest, B + o ≤ 12 → FU f (lvT t) o → lvOf (hd rest).tx < lvT t → (lvT t ≤ 5 → (hd rest).tx ∉ units) → exprP f (lvT t) o (tkT t ++ rest) = .ok t rest) : PSr B t := by
  intro lv o f rest h1 hl hb hf hlo hu
  obtain ⟨x, r, hx, g1, g2⟩ := hF
  exact desc h8 (by omega) ⟨x, r ++ rest, by rw [hx]; rfl, g1, g2⟩ (fun f hf => h o f rest hb hf (by omega) (fun h => hu (by omega))) (lvT t - lv) lv f (by omega) h1 hf hlo
theorem CH.low {B : Nat} {t : Tr} (h : PSr B t) {L o f : Nat} {rest : List Tk} (hL : L + 1 ≤ lvT t) (hb : B + o ≤ 12) (hf : FU f (L + 1) o) (hl : lvOf (hd rest).tx ≤ L) (hu : L ≤ 5 → (hd rest).tx ∉ units) :
    (exprP f (L + 1) o (tkT t ++ rest)).bind (fun n r2 => loopP (exprP f) L o r2.length n r2) = loopP (exprP f) L o rest.length t rest := by
  rw [h (L + 1) o f rest (by omega) hL hb hf (by omega) (fun h => hu (by omega)), PR.bind_ok]
theorem CH.of {B : Nat} {t : Tr} (h : PSr B t) (h0 : lvT t ≠ 1 ∧ lvT t ≠ 2 ∧ lvT t ≠ 5 ∧ lvT t ≠ 6) : CH B t := fun L o f rest hL hl hb hf hlo hu => CH.low h (by omega) hb hf hlo hu
/-- The left operand of a chain, and what is behind it. -/
theorem chain_left {B L : Nat} {a : Tr} (hA : lvT a < L → 1 ≤ B) (hP : PSr (bud (lvT a) L B) a) (hC : CH (bud (lvT a) L B) a) (h1 : 1 ≤ lvT a) (hL : L = 1 ∨ L = 2 ∨ L = 5 ∨ L = 6) {o f : Nat} {rest : List Tk} (hb : B + o ≤ 12) (hf : FU f (L + 1) o) (hl : lvOf (hd rest).tx ≤ L) (hu : L ≤ 5 → (hd rest).tx ∉ units) :
    (exprP f (L + 1) o (opK (lvT a) L (tkT a) ++ rest)).bind (fun n r2 => loopP (exprP f) L o r2.length n r2) = loopP (exprP f) L o rest.length a rest := by
  rw [opK_app]
  by_cases hc : lvT a < L
  · have := hA hc
    unfold bud at hP
    rw [if_pos hc] at hP ⊢
    rw [paren hP h1 (by omega) (by omega) (by omega) hf (by omega), PR.bind_ok]
  · unfold bud at hC
    rw [if_neg hc] at hC ⊢
    exact hC L o f rest hL (by omega) hb hf hl hu
theorem unit_lv : ∀ s ∈ units, lvOf s = 0 := by decide
theorem op_unit {s : List UInt8} (h : 1 ≤ lvOf s) : s ∉ units := fun hu => by have := unit_lv s hu; omega
theorem loop_rest (f L o : Nat) (hL : 1 ≤ L) (g : Nat) (n : Tr) (r : List Tk) (h : r.length ≤ g) : loopP (exprP f) L o g n r = loopP (exprP f) L o r.length n r := loop_fuel (fun lv o m h => loc_expr f lv o m h) hL g r.length n r h (Nat.le_refl _)
theorem itoa_head {n : Int} (h : 0 ≤ n) : Lib.itoa n ≠ wNot ∧ Lib.itoa n ≠ wMinus := by
  obtain ⟨m, rfl⟩ := Int.eq_ofNat_of_zero_le h
  rw [itoa_nat]
  have h2 := (dec_all m m (Nat.le_refl _)).2.1
  exact ⟨fun e => by rw [e] at h2; revert h2; decide, fun e => by rw [e] at h2; revert h2; decide⟩
theorem field_facts : ∀ s ∈ fields, s ≠ wTrue ∧ s ≠ wFalse ∧ s ≠ wOpen ∧ s ≠ wIf ∧ s ∉ functions ∧ s ≠ wNot ∧ s ≠ wMinus := by decide
theorem fun_facts : ∀ s ∈ functions, s ≠ wTrue ∧ s ≠ wFalse ∧ s ≠ wOpen ∧ s ≠ wIf ∧ s ≠ wNot ∧ s ≠ wMinus := by decide
theorem prim_top (f o : Nat) (r : List Tk) : exprP (f + 1) 8 o r = primP (exprP f) o r := by rw [exprP, stepP, if_neg (by omega), if_pos rfl]
set_option maxHeartbeats 1000000 in
/-- The tokens of a tree are parsed as the tree. -/
theorem tree_tk {B : Nat} {t : Tr} (h : GD B t) : PSr B t ∧ CH B t ∧ FT (lvT t) (tkT t) := by
  have top : ∀ {B : Nat} {t : Tr}, lvT t = 8 → FT 8 (tkT t) → (∀ o f rest, B + o ≤ 12 → FU (f + 1) 8 o → primP (exprP f) o (tkT t ++ rest) = .ok t rest) → PSr B t ∧ CH B t ∧ FT (lvT t) (tkT t) := by
    intro B t h8 hF hX
    have hP : PSr B t := PSr.of (by omega) (by rw [h8]; exact hF) fun o f rest hb hf hl hu => by
      rw [h8] at hf ⊢
      have hf' := hf
      unfold FU at hf'
      obtain ⟨f, rfl⟩ : ∃ g, f = g + 1 := ⟨f - 1, by omega⟩
      rw [prim_top]
      exact hX o f rest hb hf
    exact ⟨hP, .of hP (by omega), by rw [h8]; exact hF⟩
  induction h with
  | num B n h =>
    refine top (by rw [lvT, lvN_top _ (by decide)]) (by rw [tk_num]; exact FT.of (itoa_head h.1).1 (itoa_head h.1).2) fun o f rest hb hf => ?_
    rw [tk_num, List.singleton_append, primP, hdc, if_pos (show (⟨2, 0, Lib.itoa n, n⟩ : Tk).kd = 2 from rfl)]; rfl
  | bool B n h =>
    refine top (by rw [lvT, lvN_top _ (by decide)]) (by rw [tk_bool]; rcases h with rfl | rfl <;> exact FT.of (by decide) (by decide)) fun o f rest hb hf => ?_
    rw [tk_bool, List.singleton_append]
    rcases h with rfl | rfl
    · rw [if_neg (by decide), primP, hdc, if_neg (show ¬ (wd wFalse).kd = 2 from k12), if_neg (show ¬ (wd wFalse).kd = 3 from k13), if_neg (show ¬ (wd wFalse).tx = wTrue by decide), if_pos (wd_tx wFalse)]; rfl
    · rw [if_pos rfl, primP, hdc, if_neg (show ¬ (wd wTrue).kd = 2 from k12), if_neg (show ¬ (wd wTrue).kd = 3 from k13), if_pos (wd_tx wTrue)]; rfl
  | day B n h =>
    refine top (by rw [lvT, lvN_top _ (by decide)]) (by rw [tk_day]; exact FT.of (fun e => by injection e with e; revert e; decide) (fun e => by injection e with e; revert e; decide)) fun o f rest hb hf => ?_
    rw [tk_day, List.singleton_append, primP, hdc, if_neg (show ¬ (⟨3, 0, 64 :: prL n.toNat, n⟩ : Tk).kd = 2 from (by decide : ¬ (3 : Int) = 2)), if_pos (show (⟨3, 0, 64 :: prL n.toNat, n⟩ : Tk).kd = 3 from rfl)]; rfl
  | field B s h =>
    obtain ⟨a1, a2, a3, a4, a5, a6, a7⟩ := field_facts s h
    refine top (by rw [lvT, lvN_top _ (by decide)]) (by rw [tk_field]; exact FT.of a6 a7) fun o f rest hb hf => ?_
    rw [tk_field, List.singleton_append, primP, hdc, if_neg (show ¬ (wd s).kd = 2 from k12), if_neg (show ¬ (wd s).kd = 3 from k13), if_neg (show ¬ (wd s).tx = wTrue from a1), if_neg (show ¬ (wd s).tx = wFalse from a2), if_neg (show ¬ (wd s).tx = wOpen from a3), if_neg (show ¬ (wd s).tx = wIf from a4), if_neg (show ¬ (wd s).tx ∈ functions from a5), if_pos (show (wd s).tx ∈ fields from h)]; rfl
  | ite B a b c ha hb hc iha ihb ihc =>
    refine top (by rw [lvT, lvN_top _ (by decide)]) (by rw [tk_ite]; exact FT.of (by decide) (by decide)) fun o f rest hbo hf => ?_
    unfold FU at hf
    have q1 := iha.1 1 (o + 1) f (wd wThen :: (tkT b ++ wd wElse :: (tkT c ++ wd wEnd :: rest))) (Nat.le_refl _) (GT.lv ha.gt).1 (by omega) (by unfold FU; omega) (by rw [hdc]; decide) (fun _ => by rw [hdc]; decide)
    have q2 := ihb.1 1 (o + 1) f (wd wElse :: (tkT c ++ wd wEnd :: rest)) (Nat.le_refl _) (GT.lv hb.gt).1 (by omega) (by unfold FU; omega) (by rw [hdc]; decide) (fun _ => by rw [hdc]; decide)
    have q3 := ihc.1 1 (o + 1) f (wd wEnd :: rest) (Nat.le_refl _) (GT.lv hc.gt).1 (by omega) (by unfold FU; omega) (by rw [hdc]; decide) (fun _ => by rw [hdc]; decide)
    have e : tkT (.nd 9 0 [] [a, b, c]) ++ rest = wd wIf :: (tkT a ++ wd wThen :: (tkT b ++ wd wElse :: (tkT c ++ wd wEnd :: rest))) := by rw [tk_ite]; simp
    rw [e, primP, hdc, if_neg (show ¬ (wd wIf).kd = 2 from k12), if_neg (show ¬ (wd wIf).kd = 3 from k13), if_neg (show ¬ (wd wIf).tx = wTrue by decide), if_neg (show ¬ (wd wIf).tx = wFalse by decide), if_neg (show ¬ (wd wIf).tx = wOpen by decide), if_pos (wd_tx wIf), choiceP, opens_eq _ _ _ _ (wd_tx _) (by omega), PR.bind_ok, q1, PR.bind_ok, must_eq _ _ _ (wd_tx wThen), PR.bind_ok, q2, PR.bind_ok, must_eq _ _ _ (wd_tx wElse), PR.bind_ok, q3, PR.bind_ok, must_eq _ _ _ (wd_tx wEnd), PR.bind_ok]
  | call1 B s a h hs ha iha =>
    obtain ⟨a1, a2, a3, a4, a6, a7⟩ := fun_facts s h
    refine top (by rw [lvT, lvN_top _ (by decide)]) (by rw [tk_call1]; exact FT.of a6 a7) fun o f rest hbo hf => ?_
    unfold FU at hf
    have q1 := iha.1 1 (o + 1) f (sy wClose :: rest) (Nat.le_refl _) (GT.lv ha.gt).1 (by omega) (by unfold FU; omega) (by rw [hdc]; decide) (fun _ => by rw [hdc]; decide)
    have e : tkT (.nd 10 0 s [a]) ++ rest = wd s :: sy wOpen :: (tkT a ++ sy wClose :: rest) := by rw [tk_call1]; simp
    have e2 : tokP 1 (wd s :: sy wOpen :: (tkT a ++ sy wClose :: rest)) = .ok (wd s) (sy wOpen :: (tkT a ++ sy wClose :: rest)) := by unfold tokP; rw [hdc, if_pos (wd_kd _)]; rfl
    rw [e, primP, hdc, if_neg (show ¬ (wd s).kd = 2 from k12), if_neg (show ¬ (wd s).kd = 3 from k13), if_neg (show ¬ (wd s).tx = wTrue from a1), if_neg (show ¬ (wd s).tx = wFalse from a2), if_neg (show ¬ (wd s).tx = wOpen from a3), if_neg (show ¬ (wd s).tx = wIf from a4), if_pos (show (wd s).tx ∈ functions from h), callP, e2, PR.bind_ok, opens_eq _ _ _ _ (sy_tx _) (by omega), PR.bind_ok, q1, PR.bind_ok, if_pos (show argsN (wd s).tx = 1 from hs), must_eq _ _ _ (sy_tx wClose), PR.bind_ok]; rfl
  | call2 B s a b h hs ha hb iha ihb =>
    obtain ⟨a1, a2, a3, a4, a6, a7⟩ := fun_facts s h
    refine top (by rw [lvT, lvN_top _ (by decide)]) (by rw [tk_call2]; exact FT.of a6 a7) fun o f rest hbo hf => ?_
    unfold FU at hf
    have q1 := iha.1 1 (o + 1) f (sy wComma :: (tkT b ++ sy wClose :: rest)) (Nat.le_refl _) (GT.lv ha.gt).1 (by omega) (by unfold FU; omega) (by rw [hdc]; decide) (fun _ => by rw [hdc]; decide)
    have q2 := ihb.1 1 (o + 1) f (sy wClose :: rest) (Nat.le_refl _) (GT.lv hb.gt).1 (by omega) (by unfold FU; omega) (by rw [hdc]; decide) (fun _ => by rw [hdc]; decide)
    have e : tkT (.nd 10 0 s [a, b]) ++ rest = wd s :: sy wOpen :: (tkT a ++ sy wComma :: (tkT b ++ sy wClose :: rest)) := by rw [tk_call2]; simp
    have e2 : tokP 1 (wd s :: sy wOpen :: (tkT a ++ sy wComma :: (tkT b ++ sy wClose :: rest))) = .ok (wd s) (sy wOpen :: (tkT a ++ sy wComma :: (tkT b ++ sy wClose :: rest))) := by unfold tokP; rw [hdc, if_pos (wd_kd _)]; rfl
    rw [e, primP, hdc, if_neg (show ¬ (wd s).kd = 2 from k12), if_neg (show ¬ (wd s).kd = 3 from k13), if_neg (show ¬ (wd s).tx = wTrue from a1), if_neg (show ¬ (wd s).tx = wFalse from a2), if_neg (show ¬ (wd s).tx = wOpen from a3), if_neg (show ¬ (wd s).tx = wIf from a4), if_pos (show (wd s).tx ∈ functions from h), callP, e2, PR.bind_ok, opens_eq _ _ _ _ (sy_tx _) (by omega), PR.bind_ok, q1, PR.bind_ok, if_neg (show ¬ argsN (wd s).tx = 1 by rw [show (wd s).tx = s from rfl, hs]; decide), must_eq _ _ _ (sy_tx wComma), PR.bind_ok, q2, PR.bind_ok, must_eq _ _ _ (sy_tx wClose), PR.bind_ok]; rfl
  | una B s a h hA ha iha =>
    have hlv : lvT (.nd 5 0 s [a]) = lvN 5 s := rfl
    have hl37 : lvN 5 s = 3 ∨ lvN 5 s = 7 := by rw [lvN5]; split <;> simp
    have ht : (if s = wNot then wd wNot else sy wMinus).tx = s := by
      rcases h with rfl | rfl
      · rw [if_pos rfl]; rfl
      · rw [if_neg (by decide)]; rfl
    have hF : FT (lvT (.nd 5 0 s [a])) (tkT (.nd 5 0 s [a])) := by
      rw [tk_una, hlv]
      refine ⟨_, _, rfl, fun h3 => ?_, fun h7 => by omega⟩
      rw [ht]
      rcases h with rfl | rfl
      · rw [lvN5, if_pos rfl] at h3; omega
      · decide
    have hP : PSr (B + 1) (.nd 5 0 s [a]) := by
      refine PSr.of (by rw [hlv]; omega) hF fun o f rest hb hf hl hu => ?_
      rw [hlv] at hf hl hu ⊢
      have hf' := hf
      unfold FU at hf'
      obtain ⟨f, rfl⟩ : ∃ g, f = g + 1 := ⟨f - 1, by omega⟩
      have q := operandK hA iha.1 (GT.lv ha.gt).1 (o := o + 1) (f := f) (rest := rest) (by omega) (by omega) (by omega) (by unfold FU; omega) hl hu
      have hc : lvN 5 s = 3 ∧ s = wNot ∨ lvN 5 s = 7 ∧ s = wMinus := by
        rcases h with rfl | rfl
        · exact .inl ⟨by rw [lvN5, if_pos rfl], rfl⟩
        · exact .inr ⟨by rw [lvN5, if_neg (by decide)], rfl⟩
      rw [tk_una, List.cons_append, exprP, stepP, hdc, ht, if_pos hc, opens_eq _ _ _ _ ht (by omega), PR.bind_ok, q, PR.bind_ok]
    exact ⟨hP, .of hP (by rw [hlv]; omega), hF⟩
  | bin B s a b h hA hB ha hb iha ihb =>
    have hlv : lvT (.nd 6 0 s [a, b]) = lvOf s := by rw [lvT, lvN6]
    have h6 := lvOf_le s
    have h3 := lvOf_cases s
    have htx : (tkO s).tx = s := rfl
    have hF : FT (lvT (.nd 6 0 s [a, b])) (tkT (.nd 6 0 s [a, b])) := by
      rw [tk_bin, hlv]
      exact iha.2.2.op (leftL_le _).1
    have hla := (GT.lv ha.gt).1
    have hlb := (GT.lv hb.gt).1
    by_cases h4 : lvOf s = 4
    · have hP : PSr B (.nd 6 0 s [a, b]) := by
        refine PSr.of (by rw [hlv]; omega) hF fun o f rest hbo hf hl hu => ?_
        rw [hlv, h4] at hf hl hu ⊢
        rw [h4] at hA hB iha ihb
        have hf' := hf
        unfold FU at hf'
        obtain ⟨f, rfl⟩ : ∃ g, f = g + 1 := ⟨f - 1, by omega⟩
        have q1 := operandK hA iha.1 hla (o := o) (f := f) (rest := tkO s :: (opK (lvT b) (4 + 1) (tkT b) ++ rest)) (by decide) (by decide) hbo (by unfold FU leftL; simp; omega) (by rw [hdc, htx, h4]; decide) (fun _ => by rw [hdc, htx]; exact op_unit h)
        have q2 := operandK hB ihb.1 hlb (o := o) (f := f) (rest := rest) (by decide) (by decide) hbo (by unfold FU; omega) (by omega) (fun _ => hu (by decide))
        have e : tkT (.nd 6 0 s [a, b]) ++ rest = opK (lvT a) (leftL 4) (tkT a) ++ tkO s :: (opK (lvT b) (4 + 1) (tkT b) ++ rest) := by rw [tk_bin, h4]; simp
        rw [show leftL 4 = 4 + 1 from rfl] at q1 e
        rw [e, exprP, stepP, if_neg (by omega), if_neg (by omega), q1, PR.bind_ok, List.length_cons, loopP, hdc, htx, if_pos h4, List.tail_cons, q2, PR.bind_ok, if_pos rfl]
        unfold joinP
        rw [if_neg (by omega)]
      exact ⟨hP, .of hP (by rw [hlv]; omega), hF⟩
    · have hll : leftL (lvOf s) = lvOf s := (leftL_le _).2.2 h4
      have hL : lvOf s = 1 ∨ lvOf s = 2 ∨ lvOf s = 5 ∨ lvOf s = 6 := by omega
      rw [hll] at hA iha
      have own : ∀ o f rest, B + o ≤ 12 → FU f (lvOf s + 1) o → lvOf (hd rest).tx ≤ lvOf s → (lvOf s ≤ 5 → (hd rest).tx ∉ units) → (exprP f (lvOf s + 1) o (tkT (.nd 6 0 s [a, b]) ++ rest)).bind (fun n r2 => loopP (exprP f) (lvOf s) o r2.length n r2) = loopP (exprP f) (lvOf s) o rest.length (.nd 6 0 s [a, b]) rest := by
        intro o f rest hbo hf hl hu
        have q1 := chain_left hA iha.1 iha.2.1 hla hL (o := o) (f := f) (rest := tkO s :: (opK (lvT b) (lvOf s + 1) (tkT b) ++ rest)) hbo hf (by rw [hdc, htx]; exact Nat.le_refl _) (fun _ => by rw [hdc, htx]; exact op_unit h)
        have q2 := operandK hB ihb.1 hlb (o := o) (f := f) (rest := rest) (by omega) (by omega) hbo hf (by omega) (fun h => hu (by omega))
        have e : tkT (.nd 6 0 s [a, b]) ++ rest = opK (lvT a) (lvOf s) (tkT a) ++ tkO s :: (opK (lvT b) (lvOf s + 1) (tkT b) ++ rest) := by rw [tk_bin, hll]; simp
        have ej : joinP (lvOf s) s a b rest = (.nd 6 0 s [a, b], rest) := by
          unfold joinP
          rw [if_neg (fun hc => hu (by omega) hc.2)]
        rw [e, q1, List.length_cons, loopP, hdc, htx, if_pos rfl, List.tail_cons, q2, PR.bind_ok, if_neg h4, ej]
        exact loop_rest f _ o h _ _ _ (by simp only [List.length_append]; omega)
      have hP : PSr B (.nd 6 0 s [a, b]) := by
        refine PSr.of (by rw [hlv]; omega) hF fun o f rest hbo hf hl hu => ?_
        rw [hlv] at hf hl hu ⊢
        have hf' := hf
        unfold FU at hf'
        obtain ⟨f, rfl⟩ : ∃ g, f = g + 1 := ⟨f - 1, by omega⟩
        rw [exprP, stepP, if_neg (by omega), if_neg (by omega), own o f rest hbo (by unfold FU; omega) (by omega) hu]
        cases hr : rest.length with
        | zero => rw [loopP]
        | succ g => rw [loopP, if_neg (by omega)]
      refine ⟨hP, fun L o f rest hL' hl hbo hf hlo hu => ?_, hF⟩
      by_cases hc : L = lvOf s
      · subst hc
        exact own o f rest hbo hf hlo hu
      · exact CH.low hP (by rw [hlv] at hl ⊢; omega) hbo hf hlo hu
  | aft B k s a b hk h hA hB ha hb iha ihb =>
    have hlv : lvT (.nd k 0 s [a, b]) = 5 := by rw [lvT, lvN78 _ hk]
    have hF : FT (lvT (.nd k 0 s [a, b])) (tkT (.nd k 0 s [a, b])) := by
      rw [tk_aft _ _ _ _ hk, hlv]
      exact iha.2.2.op (Nat.le_refl _)
    have hla := (GT.lv ha.gt).1
    have hlb := (GT.lv hb.gt).1
    obtain ⟨op, hop⟩ : ∃ op, op = (if k = 8 then wMinus else wPlus) := ⟨_, rfl⟩
    have h5 : lvOf op = 5 := by rw [hop]; split <;> decide
    have hkk : (if op = wMinus then (8 : Int) else 7) = k := by
      rw [hop]
      rcases hk with rfl | rfl
      · rw [if_neg (by decide : ¬ (7 : Int) = 8), if_neg (by decide)]
      · rw [if_pos rfl, if_pos rfl]
    have own : ∀ o f rest, B + o ≤ 12 → FU f (5 + 1) o → lvOf (hd rest).tx ≤ 5 → (exprP f (5 + 1) o (tkT (.nd k 0 s [a, b]) ++ rest)).bind (fun n r2 => loopP (exprP f) 5 o r2.length n r2) = loopP (exprP f) 5 o rest.length (.nd k 0 s [a, b]) rest := by
      intro o f rest hbo hf hl
      have q1 := chain_left hA iha.1 iha.2.1 hla (by omega) (o := o) (f := f) (rest := sy op :: (opK (lvT b) (5 + 1) (tkT b) ++ wd s :: rest)) hbo hf (by rw [hdc, show (sy op).tx = op from rfl, h5]; exact Nat.le_refl _) (fun _ => by rw [hdc]; exact op_unit (s := op) (by omega))
      have q2 := operandK hB ihb.1 hlb (o := o) (f := f) (rest := wd s :: rest) (by omega) (by omega) hbo hf (by rw [hdc, show (wd s).tx = s from rfl, unit_lv s h]; decide) (fun h => by omega)
      have e : tkT (.nd k 0 s [a, b]) ++ rest = opK (lvT a) 5 (tkT a) ++ sy op :: (opK (lvT b) (5 + 1) (tkT b) ++ wd s :: rest) := by rw [tk_aft _ _ _ _ hk, ← hop]; simp
      have ej : joinP 5 op a b (wd s :: rest) = (.nd k 0 s [a, b], rest) := by
        unfold joinP
        rw [if_pos ⟨rfl, h⟩, hkk]; rfl
      rw [e, q1, List.length_cons, loopP, hdc, show (sy op).tx = op from rfl, if_pos h5, List.tail_cons, q2, PR.bind_ok, if_neg (by decide), ej]
      exact loop_rest f _ o (by decide) _ _ _ (by simp only [List.length_append, List.length_cons]; omega)
    have hP : PSr B (.nd k 0 s [a, b]) := by
      refine PSr.of (by rw [hlv]; decide) hF fun o f rest hbo hf hl hu => ?_
      rw [hlv] at hf hl hu ⊢
      have hf' := hf
      unfold FU at hf'
      obtain ⟨f, rfl⟩ : ∃ g, f = g + 1 := ⟨f - 1, by omega⟩
      rw [exprP, stepP, if_neg (by omega), if_neg (by omega), own o f rest hbo (by unfold FU; omega) (by omega)]
      cases hr : rest.length with
      | zero => rw [loopP]
      | succ g => rw [loopP, if_neg (by omega)]
    refine ⟨hP, fun L o f rest hL' hl hbo hf hlo hu => ?_, hF⟩
    by_cases hc : L = 5
    · subst hc
      exact own o f rest hbo hf hlo
    · exact CH.low hP (by rw [hlv] at hl ⊢; omega) hbo hf hlo hu
end Go.Proofs.YtnpenepdechkjaaGreatDoor
