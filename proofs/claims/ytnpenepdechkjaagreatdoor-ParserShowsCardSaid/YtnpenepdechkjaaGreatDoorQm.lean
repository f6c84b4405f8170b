/- Trees with the constructs that they may open: what the parser builds is such a tree. -/
import Derived.Test.YtnpenepdechkjaaGreatDoorQk
import Derived.Test.YtnpenepdechkjaaGreatDoorMg
namespace Go.Proofs.YtnpenepdechkjaaGreatDoor
open Go

/-- What is left of a budget for an operand of level l at a place that asks for lv. -/
def bud (l lv B : Nat) : Nat := if l < lv then B - 1 else B
theorem bud_mono {l lv B B' : Nat} (h : B ≤ B') : bud l lv B ≤ bud l lv B' := by unfold bud; split <;> omega
/-- Trees that can be printed, and parsed with a budget of constructs to open. -/
inductive GD : Nat → Tr → Prop
  | num (B : Nat) (n : Int) (h : 0 ≤ n ∧ n ≤ 2147483647) : GD B (.nd 1 n [] [])
  | bool (B : Nat) (n : Int) (h : n = 0 ∨ n = 1) : GD B (.nd 2 n [] [])
  | day (B : Nat) (n : Int) (h : 0 ≤ n ∧ n ≤ 3652058) : GD B (.nd 3 n [] [])
  | field (B : Nat) (s : List UInt8) (h : s ∈ fields) : GD B (.nd 4 0 s [])
  | una (B : Nat) (s : List UInt8) (a : Tr) (h : s = wNot ∨ s = wMinus) (hA : lvT a < lvN 5 s → 1 ≤ B) (ha : GD (bud (lvT a) (lvN 5 s) B) a) : GD (B + 1) (.nd 5 0 s [a])
  | bin (B : Nat) (s : List UInt8) (a b : Tr) (h : 1 ≤ lvOf s) (hA : lvT a < leftL (lvOf s) → 1 ≤ B) (hB : lvT b < lvOf s + 1 → 1 ≤ B) (ha : GD (bud (lvT a) (leftL (lvOf s)) B) a) (hb : GD (bud (lvT b) (lvOf s + 1) B) b) : GD B (.nd 6 0 s [a, b])
  | aft (B : Nat) (k : Int) (s : List UInt8) (a b : Tr) (hk : k = 7 ∨ k = 8) (h : s ∈ units) (hA : lvT a < 5 → 1 ≤ B) (hB : lvT b < 6 → 1 ≤ B) (ha : GD (bud (lvT a) 5 B) a) (hb : GD (bud (lvT b) 6 B) b) : GD B (.nd k 0 s [a, b])
  | ite (B : Nat) (a b c : Tr) (ha : GD B a) (hb : GD B b) (hc : GD B c) : GD (B + 1) (.nd 9 0 [] [a, b, c])
  | call1 (B : Nat) (s : List UInt8) (a : Tr) (h : s ∈ functions) (hs : argsN s = 1) (ha : GD B a) : GD (B + 1) (.nd 10 0 s [a])
  | call2 (B : Nat) (s : List UInt8) (a b : Tr) (h : s ∈ functions) (hs : argsN s = 2) (ha : GD B a) (hb : GD B b) : GD (B + 1) (.nd 10 0 s [a, b])
theorem GD.mono {B B' : Nat} {t : Tr} (h : GD B t) (hb : B ≤ B') : GD B' t := by
  induction h generalizing B' with
  | num B n h => exact .num _ n h
  | bool B n h => exact .bool _ n h
  | day B n h => exact .day _ n h
  | field B s h => exact .field _ s h
  | una B s a h hA ha ih =>
    obtain ⟨k, rfl⟩ : ∃ k, B' = k + 1 := ⟨B' - 1, by omega⟩
    exact .una k s a h (fun h => by have := hA h; omega) (ih (bud_mono (by omega)))
  | bin B s a b h hA hB ha hb iha ihb => exact .bin _ s a b h (fun h => by have := hA h; omega) (fun h => by have := hB h; omega) (iha (bud_mono (by omega))) (ihb (bud_mono (by omega)))
  | aft B k s a b hk h hA hB ha hb iha ihb => exact .aft _ k s a b hk h (fun h => by have := hA h; omega) (fun h => by have := hB h; omega) (iha (bud_mono (by omega))) (ihb (bud_mono (by omega)))
  | ite B a b c ha hb hc iha ihb ihc =>
    obtain ⟨k, rfl⟩ : ∃ k, B' = k + 1 := ⟨B' - 1, by omega⟩
    exact .ite k a b c (iha (by omega)) (ihb (by omega)) (ihc (by omega))
  | call1 B s a h hs ha iha =>
    obtain ⟨k, rfl⟩ : ∃ k, B' = k + 1 := ⟨B' - 1, by omega⟩
    exact .call1 k s a h hs (iha (by omega))
  | call2 B s a b h hs ha hb iha ihb =>
    obtain ⟨k, rfl⟩ : ∃ k, B' = k + 1 := ⟨B' - 1, by omega⟩
    exact .call2 k s a b h hs (iha (by omega)) (ihb (by omega))
theorem GD.gt {B : Nat} {t : Tr} (h : GD B t) : GT t := by
  induction h with
  | num B n h => exact .num n h
  | bool B n h => exact .bool n h
  | day B n h => exact .day n h
  | field B s h => exact .field s h
  | una B s a h hA ha ih => exact .una s a h ih
  | bin B s a b h hA hB ha hb iha ihb => exact .bin s a b h iha ihb
  | aft B k s a b hk h hA hB ha hb iha ihb => exact .aft k s a b hk h iha ihb
  | ite B a b c ha hb hc iha ihb ihc => exact .ite a b c iha ihb ihc
  | call1 B s a h hs ha iha => exact .call1 s a h hs iha
  | call2 B s a b h hs ha hb iha ihb => exact .call2 s a b h hs iha ihb
theorem lvOf_le (s : List UInt8) : lvOf s ≤ 6 := by
  unfold lvOf
  split
  · decide
  split
  · decide
  split
  · decide
  split
  · decide
  split <;> decide
theorem lvOf_cases (s : List UInt8) : lvOf s ≠ 3 := by
  unfold lvOf
  split
  · decide
  split
  · decide
  split
  · decide
  split
  · decide
  split <;> decide
theorem lvN6 (s : List UInt8) : lvN 6 s = lvOf s := by unfold lvN; rw [if_pos rfl]
theorem lvN78 {k : Int} (s : List UInt8) (hk : k = 7 ∨ k = 8) : lvN k s = 5 := by
  unfold lvN
  rw [if_neg (by rcases hk with rfl | rfl <;> decide), if_pos hk]
theorem lvN5 (s : List UInt8) : lvN 5 s = if s = wNot then 3 else 7 := by
  unfold lvN
  rw [if_neg (by decide), if_neg (by decide), if_pos rfl]
theorem lvN_top {k : Int} (s : List UInt8) (h : k ≠ 6 ∧ k ≠ 7 ∧ k ≠ 8 ∧ k ≠ 5) : lvN k s = 8 := by
  unfold lvN
  rw [if_neg h.1, if_neg (fun e => by rcases e with e | e; exact h.2.1 e; exact h.2.2.1 e), if_neg h.2.2.2]
theorem GT.lv {t : Tr} (h : GT t) : 1 ≤ lvT t ∧ lvT t ≤ 8 := by
  cases h with
  | num n h => exact ⟨by rw [lvT, lvN_top _ (by decide)]; decide, by rw [lvT, lvN_top _ (by decide)]; decide⟩
  | bool n h => exact ⟨by rw [lvT, lvN_top _ (by decide)]; decide, by rw [lvT, lvN_top _ (by decide)]; decide⟩
  | day n h => exact ⟨by rw [lvT, lvN_top _ (by decide)]; decide, by rw [lvT, lvN_top _ (by decide)]; decide⟩
  | field s h => exact ⟨by rw [lvT, lvN_top _ (by decide)]; decide, by rw [lvT, lvN_top _ (by decide)]; decide⟩
  | una s a h ha => rw [lvT, lvN5]; split <;> decide
  | bin s a b h ha hb => rw [lvT, lvN6]; have := lvOf_le s; omega
  | aft k s a b hk h ha hb => rw [lvT, lvN78 _ hk]; decide
  | ite a b c ha hb hc => exact ⟨by rw [lvT, lvN_top _ (by decide)]; decide, by rw [lvT, lvN_top _ (by decide)]; decide⟩
  | call1 s a h hs ha => exact ⟨by rw [lvT, lvN_top _ (by decide)]; decide, by rw [lvT, lvN_top _ (by decide)]; decide⟩
  | call2 s a b h hs ha hb => exact ⟨by rw [lvT, lvN_top _ (by decide)]; decide, by rw [lvT, lvN_top _ (by decide)]; decide⟩
/-- An operand at a place that asks for a level. -/
def OD (lv B : Nat) (t : Tr) : Prop := (lvT t < lv → 1 ≤ B) ∧ GD (bud (lvT t) lv B) t
theorem OD.of {lv B : Nat} {t : Tr} (h : GD B t) (hl : lv ≤ lvT t) : OD lv B t := ⟨fun h => by omega, by unfold bud; rw [if_neg (by omega)]; exact h⟩
theorem OD.gd {lv B : Nat} {t : Tr} (h : OD lv B t) : GD B t := h.2.mono (by unfold bud; split <;> omega)
theorem OD.lower {lv lv' B : Nat} {t : Tr} (h : OD lv B t) (hl : lv' ≤ lv) : OD lv' B t := by
  by_cases h1 : lvT t < lv'
  · exact ⟨fun _ => h.1 (by omega), by have := h.2; unfold bud at this ⊢; rw [if_pos h1]; rw [if_pos (by omega)] at this; exact this⟩
  · exact .of h.gd (by omega)
theorem OD.paren {lv B : Nat} {t : Tr} (h : GD B t) : OD lv (B + 1) t := ⟨fun _ => by omega, h.mono (by unfold bud; split <;> omega)⟩
theorem num_range {t : Tk} (h : TokOK t) (hk : t.kd = 2) : 0 ≤ t.nm ∧ t.nm ≤ 2147483647 := by
  obtain ⟨c, r, hx, h3⟩ := tokOK_cons h
  rw [hk, tok1_cons] at h3
  split at h3
  · split at h3
    · cases h3
    · injection h3 with h4; exact absurd h4 (by decide)
  · split at h3
    · split at h3
      · cases h3
      · split at h3
        · cases h3
        · rename_i hle
          injection h3 with _ _ h6
          omega
    · split at h3
      · split at h3
        · split at h3
          · injection h3 with h4; exact absurd h4 (by decide)
          · cases h3
        · cases h3
      · split at h3
        · cases h3
        · injection h3 with h4; exact absurd h4 (by decide)
theorem word_nm {t : Tk} (h : TokOK t) (hk : t.kd = 1) : t.nm = 0 ∧ t.tx.length ≤ 12 := by
  obtain ⟨c, r, hx, h3⟩ := tokOK_cons h
  rw [hk, tok1_cons] at h3
  split at h3
  · split at h3
    · cases h3
    · injection h3 with _ h5 h6; exact ⟨h6.symm, by omega⟩
  · split at h3
    · split at h3
      · cases h3
      · split at h3
        · cases h3
        · injection h3 with h4; exact absurd h4 (by decide)
    · split at h3
      · split at h3
        · split at h3
          · injection h3 with h4; exact absurd h4 (by decide)
          · cases h3
        · cases h3
      · split at h3
        · cases h3
        · injection h3 with h4; exact absurd h4 (by decide)
theorem join_gd {lv B : Nat} {r : List Tk} {op : List UInt8} {a b : Tr} (hlv : 1 ≤ lv) (hop : lvOf op = lv) (ha : OD (leftL lv) B a) (hb : OD (lv + 1) B b) : OD lv B (joinP lv op a b r).1 := by
  unfold joinP
  split
  · rename_i h
    obtain ⟨h5, hu⟩ := h
    subst h5
    have hk : (if op = wMinus then (8 : Int) else 7) = 7 ∨ (if op = wMinus then (8 : Int) else 7) = 8 := by split <;> simp
    exact .of (.aft B _ _ a b hk hu ha.1 hb.1 ha.2 hb.2) (by rw [lvT, lvN78 _ hk]; exact Nat.le_refl _)
  · subst hop
    exact .of (.bin B op a b hlv ha.1 hb.1 ha.2 hb.2) (by rw [lvT, lvN6]; exact Nat.le_refl _)
section
variable {ts : List Tk} (hW : Wts ts)
theorem leftL_le (lv : Nat) : lv ≤ leftL lv ∧ leftL lv ≤ lv + 1 ∧ (lv ≠ 4 → leftL lv = lv) := by
  unfold leftL; split <;> omega
theorem opens_12 {s : List UInt8} {o : Nat} {r r1 : List Tk} {u : Unit} (h : opensP s o r = .ok u r1) : o ≠ 12 := by
  unfold opensP at h
  split at h
  · split at h
    · cases h
    · assumption
  · cases h
include hW
omit hW in
theorem loop_gd {E : Nat → Nat → List Tk → PR Tr} (hE : KnE ts E) {lv o B : Nat} (hlv : 1 ≤ lv) (hG : ∀ r t r', r ⊆ ts → E (lv + 1) o r = .ok t r' → OD (lv + 1) B t) : ∀ (g : Nat) (n : Tr) (r : List Tk) (t : Tr) (r' : List Tk), OD (leftL lv) B n → r ⊆ ts → loopP E lv o g n r = .ok t r' → OD lv B t
  | 0, n, r, t, r', hn, hr, h => by
    rw [loopP] at h
    obtain ⟨rfl, rfl⟩ := PR.ok_inj h
    exact hn.lower (leftL_le lv).1
  | g + 1, n, r, t, r', hn, hr, h => by
    rw [loopP] at h
    split at h
    · rename_i hop
      obtain ⟨b, r2, h2, h3⟩ := PR.bind_inv h
      have g1 := hG _ _ _ (tl_sub hr) h2
      obtain ⟨_, g2⟩ := hE _ _ _ _ _ (tl_sub hr) h2
      have g3 := join_gd (r := r2) hlv hop hn g1
      split at h3
      · obtain ⟨rfl, rfl⟩ := PR.ok_inj h3
        exact g3
      · rename_i h4
        have g4 : (joinP lv (hd r).tx n b r2).2 ⊆ ts := by
          unfold joinP
          split
          · exact tl_sub g2
          · exact g2
        exact loop_gd hE hlv hG g _ _ _ _ (by rw [(leftL_le lv).2.2 h4]; exact g3) g4 h3
    · obtain ⟨rfl, rfl⟩ := PR.ok_inj h
      exact hn.lower (leftL_le lv).1
theorem expr_gd : ∀ (f lv o : Nat) (r : List Tk) (t : Tr) (r' : List Tk), 1 ≤ lv → lv ≤ 8 → o ≤ 12 → r ⊆ ts → exprP f lv o r = .ok t r' → OD lv (12 - o) t
  | 0, _, _, _, _, _, _, _, _, _, h => by cases h
  | f + 1, lv, o, r, t, r', h1, h8, ho, hr, h => by
    have hE := expr_kn hW f
    have ih := fun lv o r t r' => expr_gd f lv o r t r'
    have top : ∀ {B : Nat} {k n : Int} {s : List UInt8} {ks : List Tr}, (k ≠ 6 ∧ k ≠ 7 ∧ k ≠ 8 ∧ k ≠ 5) → GD B (.nd k n s ks) → OD lv B (.nd k n s ks) := fun hk h => .of h (by rw [lvT, lvN_top _ hk]; exact h8)
    rw [exprP, stepP] at h
    split at h
    · rename_i hc
      obtain ⟨_, r1, g1, h⟩ := PR.bind_inv h
      obtain ⟨n, r2, g2, h⟩ := PR.bind_inv h
      have h12 := opens_12 g1
      have g3 := ih _ _ _ _ _ h1 h8 (by omega) (opens_kn hr g1) g2
      obtain ⟨rfl, rfl⟩ := PR.ok_inj h
      have hs : (hd r).tx = wNot ∨ (hd r).tx = wMinus := by
        rcases hc with ⟨_, hc⟩ | ⟨_, hc⟩
        · exact .inl hc
        · exact .inr hc
      have hl : lvN 5 (hd r).tx = lv := by
        rw [lvN5]
        rcases hc with ⟨e, hc⟩ | ⟨e, hc⟩
        · rw [hc, if_pos rfl, e]
        · rw [hc, if_neg (by decide), e]
      rw [show 12 - o = (12 - (o + 1)) + 1 by omega]
      rw [← hl] at g3
      exact .of (.una _ _ _ hs g3.1 g3.2) (by rw [lvT, hl]; exact Nat.le_refl _)
    split at h
    · unfold primP at h
      split at h
      · rename_i hk
        have g := hd_in (r := r) (fun e => by rw [e] at hk; revert hk; decide) hr
        obtain ⟨rfl, rfl⟩ := PR.ok_inj h
        refine top (by decide) (.num _ _ ?_)
        rcases hW _ g with q | ⟨q, _⟩
        · exact num_range q hk
        · rw [hk] at q; cases q
      split at h
      · rename_i hk
        have g := hd_in (r := r) (fun e => by rw [e] at hk; revert hk; decide) hr
        obtain ⟨rfl, rfl⟩ := PR.ok_inj h
        refine top (by decide) (.day _ _ ?_)
        rcases hW _ g with q | ⟨q, _⟩
        · exact (day_text q hk).2
        · rw [hk] at q; cases q
      split at h
      · obtain ⟨rfl, rfl⟩ := PR.ok_inj h
        exact top (by decide) (.bool _ _ (.inr rfl))
      split at h
      · obtain ⟨rfl, rfl⟩ := PR.ok_inj h
        exact top (by decide) (.bool _ _ (.inl rfl))
      split at h
      · obtain ⟨_, r1, g1, h⟩ := PR.bind_inv h
        obtain ⟨n, r2, g2, h⟩ := PR.bind_inv h
        obtain ⟨_, r3, g3, h⟩ := PR.bind_inv h
        have h12 := opens_12 g1
        have g4 := ih _ _ _ _ _ (Nat.le_refl 1) (by decide) (by omega) (opens_kn hr g1) g2
        obtain ⟨rfl, rfl⟩ := PR.ok_inj h
        rw [show 12 - o = (12 - (o + 1)) + 1 by omega]
        exact OD.paren g4.gd
      split at h
      · unfold choiceP at h
        obtain ⟨_, r1, g1, h⟩ := PR.bind_inv h
        obtain ⟨a, r2, g2, h⟩ := PR.bind_inv h
        obtain ⟨_, r3, g3, h⟩ := PR.bind_inv h
        obtain ⟨b, r4, g4, h⟩ := PR.bind_inv h
        obtain ⟨_, r5, g5, h⟩ := PR.bind_inv h
        obtain ⟨c, r6, g6, h⟩ := PR.bind_inv h
        obtain ⟨_, r7, g7, h⟩ := PR.bind_inv h
        have h12 := opens_12 g1
        have s1 := opens_kn hr g1
        have s2 := (hE _ _ _ _ _ s1 g2).2
        have s3 := must_kn s2 g3
        have s4 := (hE _ _ _ _ _ s3 g4).2
        have s5 := must_kn s4 g5
        have q1 := (ih _ _ _ _ _ (Nat.le_refl 1) (by decide) (by omega) s1 g2).gd
        have q2 := (ih _ _ _ _ _ (Nat.le_refl 1) (by decide) (by omega) s3 g4).gd
        have q3 := (ih _ _ _ _ _ (Nat.le_refl 1) (by decide) (by omega) s5 g6).gd
        obtain ⟨rfl, rfl⟩ := PR.ok_inj h
        rw [show 12 - o = (12 - (o + 1)) + 1 by omega]
        exact top (by decide) (.ite _ _ _ _ q1 q2 q3)
      split at h
      · rename_i hf
        unfold callP at h
        obtain ⟨x, r1, g1, h⟩ := PR.bind_inv h
        obtain ⟨_, r2, g2, h⟩ := PR.bind_inv h
        obtain ⟨a, r3, g3, h⟩ := PR.bind_inv h
        have hx : x = hd r := by
          unfold tokP at g1
          split at g1
          · exact (PR.ok_inj g1).1.symm
          · cases g1
        subst hx
        have h12 := opens_12 g2
        have s1 := (tok_kn (by decide) hr g1).1
        have s2 := opens_kn s1 g2
        have s3 := (hE _ _ _ _ _ s2 g3).2
        have q1 := (ih _ _ _ _ _ (Nat.le_refl 1) (by decide) (by omega) s2 g3).gd
        split at h
        · rename_i ha
          obtain ⟨_, r4, g4, h⟩ := PR.bind_inv h
          obtain ⟨rfl, rfl⟩ := PR.ok_inj h
          rw [show 12 - o = (12 - (o + 1)) + 1 by omega]
          exact top (by decide) (.call1 _ _ _ hf ha q1)
        · rename_i ha
          obtain ⟨_, r4, g4, h⟩ := PR.bind_inv h
          obtain ⟨b, r5, g5, h⟩ := PR.bind_inv h
          obtain ⟨_, r6, g6, h⟩ := PR.bind_inv h
          have s4 := must_kn s3 g4
          have q2 := (ih _ _ _ _ _ (Nat.le_refl 1) (by decide) (by omega) s4 g5).gd
          obtain ⟨rfl, rfl⟩ := PR.ok_inj h
          rw [show 12 - o = (12 - (o + 1)) + 1 by omega]
          exact top (by decide) (.call2 _ _ _ _ hf (by unfold argsN at ha ⊢; split at ha; exact absurd rfl ha; (rename_i h9; rw [if_neg h9])) q1 q2)
      split at h
      · rename_i hf
        obtain ⟨rfl, rfl⟩ := PR.ok_inj h
        exact top (by decide) (.field _ _ hf)
      · cases h
    · obtain ⟨n, r2, g1, h⟩ := PR.bind_inv h
      have g2 := ih _ _ _ _ _ (by omega) (by omega) ho hr g1
      have s2 := (hE _ _ _ _ _ hr g1).2
      exact loop_gd hE h1 (fun r t r' hr h => ih _ _ _ _ _ (by omega) (by omega) ho hr h) _ _ _ _ _ (g2.lower (leftL_le lv).2.1) s2 h
/-- Names that can be printed and parsed. -/
def NmOK (s : List UInt8) : Prop := TokOK ⟨1, 0, s, 0⟩ ∧ s ∉ reserved
/-- Rules that can be printed and parsed. -/
structure GQ (x : Rl) : Prop where
  nm : NmOK x.name
  fr : 0 ≤ x.from_ ∧ x.from_ ≤ 3652058
  on_ : NmOK x.on_
  if_ : GD 12 x.if_
  due : GD 12 x.due
  un : x.unless_ = [] ∨ NmOK x.unless_
  el : x.else_ = [] ∨ NmOK x.else_
theorem name_gd {r r1 : List Tk} {u : List UInt8} (hr : r ⊆ ts) (h : nameP r = .ok u r1) : NmOK u := by
  unfold nameP at h
  split at h
  · cases h
  · rename_i hn
    obtain ⟨t, r2, h1, h2⟩ := PR.bind_inv h
    obtain ⟨g1, g2, g3⟩ := tok_kn (by decide) hr h1
    have ht : t = hd r := by
      unfold tokP at h1
      split at h1
      · exact (PR.ok_inj h1).1.symm
      · cases h1
    obtain ⟨rfl, rfl⟩ := PR.ok_inj h2
    rcases hW t g2 with q | ⟨q, _⟩
    · refine ⟨⟨q.1, (by decide : (1 : Int) ≠ 0), ?_⟩, by rw [ht]; exact hn⟩
      show tok1 t.tx = .ok 1 t.tx.length 0
      rw [q.2.2, g3, (word_nm q g3).1]
    · rw [g3] at q; cases q
theorem rule_gd {E : List Tk → PR Tr} (hK : ∀ r t r', r ⊆ ts → E r = .ok t r' → Kn ts t ∧ r' ⊆ ts) (hE : ∀ r t r', r ⊆ ts → E r = .ok t r' → GD 12 t) {r : List Tk} {x : Rl} {r' : List Tk} (hr : r ⊆ ts) (h : ruleP E r = .ok x r') : GQ x := by
  unfold ruleP at h
  obtain ⟨_, r1, h1, h⟩ := PR.bind_inv h
  obtain ⟨_, r2, h2, h⟩ := PR.bind_inv h
  obtain ⟨_, r3, h3, h⟩ := PR.bind_inv h
  obtain ⟨d, r4, h4, h⟩ := PR.bind_inv h
  obtain ⟨_, r5, h5, h⟩ := PR.bind_inv h
  obtain ⟨_, r6, h6, h⟩ := PR.bind_inv h
  obtain ⟨_, r7, h7, h⟩ := PR.bind_inv h
  obtain ⟨_, r8, h8, h⟩ := PR.bind_inv h
  obtain ⟨_, r9, h9, h⟩ := PR.bind_inv h
  obtain ⟨_, r10, h10, h⟩ := PR.bind_inv h
  obtain ⟨_, r11, h11, h⟩ := PR.bind_inv h
  obtain ⟨_, r12, h12, h⟩ := PR.bind_inv h
  obtain ⟨_, r13, h13, h⟩ := PR.bind_inv h
  obtain ⟨_, r14, h14, h⟩ := PR.bind_inv h
  obtain ⟨_, r15, h15, h⟩ := PR.bind_inv h
  have g1 := must_kn hr h1
  have q1 := name_gd hW g1 h2
  have g2 := (name_kn g1 h2).2
  have g3 := must_kn g2 h3
  obtain ⟨g4, q2, q3⟩ := tok_kn (by decide) g3 h4
  have g5 := must_kn g4 h5
  have g6 := must_kn g5 h6
  have q4 := name_gd hW g6 h7
  have g7 := (name_kn g6 h7).2
  have g8 := must_kn g7 h8
  obtain ⟨q5, g9⟩ := part_kn (Q := GD 12) (fun r t r' hr h => ⟨hE r t r' hr h, (hK r t r' hr h).2⟩) (.bool _ _ (.inr rfl)) g8 h9
  have g10 := must_kn g9 h10
  have q6 := hE _ _ _ g10 h11
  have g11 := (hK _ _ _ g10 h11).2
  have g12 := must_kn g11 h12
  obtain ⟨q7, g13⟩ := part_kn (Q := fun s => s = [] ∨ NmOK s) (fun r t r' hr h => ⟨.inr (name_gd hW hr h), (name_kn hr h).2⟩) (.inl rfl) g12 h13
  obtain ⟨q8, g14⟩ := part_kn (Q := fun s => s = [] ∨ NmOK s) (fun r t r' hr h => ⟨.inr (name_gd hW hr h), (name_kn hr h).2⟩) (.inl rfl) g13 h14
  obtain ⟨rfl, rfl⟩ := PR.ok_inj h
  refine ⟨q1, ?_, q4, q5, q6, q7, q8⟩
  rcases hW d q2 with q | ⟨q, _⟩
  · exact (day_text q q3).2
  · rw [q3] at q; cases q
theorem rules_gd {E : List Tk → PR Tr} (hK : ∀ r t r', r ⊆ ts → E r = .ok t r' → Kn ts t ∧ r' ⊆ ts) (hE : ∀ r t r', r ⊆ ts → E r = .ok t r' → GD 12 t) : ∀ (g : Nat) (l : List Rl) (r : List Tk) (v : List Rl) (r' : List Tk), r ⊆ ts → (∀ x ∈ l, GQ x) → rulesP E g l r = .ok v r' → ∀ x ∈ v, GQ x
  | 0, l, r, v, r', hr, hx, h => by
    rw [rulesP] at h
    obtain ⟨rfl, rfl⟩ := PR.ok_inj h
    exact hx
  | g + 1, l, r, v, r', hr, hx, h => by
    rw [rulesP] at h
    split at h
    · obtain ⟨rfl, rfl⟩ := PR.ok_inj h
      exact hx
    · obtain ⟨x, r2, h1, h2⟩ := PR.bind_inv h
      have g1 := rule_gd hW hK hE hr h1
      have g2 := (rule_kn hW hK hr h1).2
      refine rules_gd hK hE g (l ++ [x]) r2 v r' g2 (fun y hy => ?_) h2
      rcases List.mem_append.1 hy with hy | hy
      · exact hx y hy
      · obtain rfl : y = x := by simpa using hy
        exact g1
end
theorem parsed_gq {s : List UInt8} : ∀ x ∈ (parseR s).1, GQ x := by
  by_cases he : (lexT s).e = 0
  · obtain ⟨h1, _⟩ := lexT_ok he
    have hW : Wts (lexT s).l := fun t ht => h1.all ht
    unfold parseR parseG
    rw [if_pos he]
    cases hr : RP EX [] (lexT s).l with
    | bad r e => intro x hx; cases hx
    | ok v r =>
      simp only
      split
      · exact rules_gd hW (fun r t r' hr h => expr_kn hW 40000 1 0 r t r' hr h) (fun r t r' hr h => (expr_gd hW 40000 1 0 r t r' (Nat.le_refl _) (by decide) (by decide) hr h).gd) _ _ _ _ _ (fun t ht => ht) (fun x hx => by cases hx) hr
      · intro x hx; cases hx
  · unfold parseR parseG
    rw [if_neg he]
    intro x hx; cases hx
end Go.Proofs.YtnpenepdechkjaaGreatDoor
