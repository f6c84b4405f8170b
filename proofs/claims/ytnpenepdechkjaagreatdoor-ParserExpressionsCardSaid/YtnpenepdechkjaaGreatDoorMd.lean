/- The parser reads from the left: what it answers hangs on the tokens that it has read and on the next one. -/
import Derived.Test.YtnpenepdechkjaaGreatDoorMb
import Derived.Test.YtnpenepdechkjaaGreatDoorMc
import Derived.Defers
import Derived.Recover
import Derived.WalkMore
import Derived.Lib.Hide
namespace Go.Proofs.YtnpenepdechkjaaGreatDoor
open Go

/-- A token other than the end. -/
def NE (t : Tk) : Prop := t.tx ≠ [] ∨ t.kd ≠ 0
def PR.rs {α : Type} : PR α → List Tk
  | .ok _ r => r
  | .bad r _ => r
def PR.re {α : Type} (r' : List Tk) : PR α → PR α
  | .ok v _ => .ok v r'
  | .bad _ e => .bad r' e
theorem hd_app {pre pre' r r' : List Tk} (h : pre'.map tri = pre.map tri) (h2 : tri (hd r') = tri (hd r)) : tri (hd (pre' ++ r')) = tri (hd (pre ++ r)) := by
  cases pre with
  | nil =>
    cases pre' with
    | nil => simpa using h2
    | cons a b => simp at h
  | cons a b =>
    cases pre' with
    | nil => simp at h
    | cons a' b' =>
      simp only [List.map_cons, List.cons.injEq] at h
      exact h.1
/-- p reads from the left, at lists of at most m tokens. -/
def Loc {α : Type} (m : Nat) (p : List Tk → PR α) : Prop := ∀ l, l.length ≤ m → ∃ pre, l = pre ++ (p l).rs ∧ (∀ t ∈ pre, NE t) ∧ ∀ pre' r', pre'.map tri = pre.map tri → tri (hd r') = tri (hd (p l).rs) → p (pre' ++ r') = (p l).re r'
theorem map_nil {l : List Tk} (h : l.map tri = ([] : List Tk).map tri) : l = [] := by simpa using h
theorem Loc.mono {α : Type} {m k : Nat} {p : List Tk → PR α} (h : Loc m p) (hk : k ≤ m) : Loc k p := fun l hl => h l (Nat.le_trans hl hk)
theorem Loc.pure {α : Type} {m : Nat} (v : α) : Loc m (fun r => PR.ok v r) := fun l _ => ⟨[], rfl, (fun _ h => nomatch h), fun pre' r' h _ => by rw [map_nil h]; rfl⟩
theorem Loc.fail {α : Type} {m : Nat} (e : Int) : Loc m (fun r => (PR.bad r e : PR α)) := fun l _ => ⟨[], rfl, (fun _ h => nomatch h), fun pre' r' h _ => by rw [map_nil h]; rfl⟩
theorem Loc.head {α : Type} {m : Nat} (f : Int × List UInt8 × Int → List Tk → PR α) (h : ∀ x, Loc m (f x)) : Loc m (fun r => f (tri (hd r)) r) := fun l hl => by
  obtain ⟨pre, h1, h2, h3⟩ := h (tri (hd l)) l hl
  refine ⟨pre, h1, h2, fun pre' r' a b => ?_⟩
  have h4 : tri (hd (pre' ++ r')) = tri (hd l) := by
    conv => rhs; rw [h1]
    exact hd_app a b
  show f (tri (hd (pre' ++ r'))) (pre' ++ r') = _
  rw [h4]
  exact h3 pre' r' a b
theorem Loc.cond {α : Type} {m : Nat} (C : Int × List UInt8 × Int → Prop) [DecidablePred C] {p q : List Tk → PR α} (hp : Loc m p) (hq : Loc m q) : Loc m (fun r => if C (tri (hd r)) then p r else q r) := by
  refine Loc.head (fun x r => if C x then p r else q r) fun x => ?_
  by_cases h : C x
  · simpa only [if_pos h] using hp
  · simpa only [if_neg h] using hq
theorem Loc.bind {α β : Type} {m : Nat} {p : List Tk → PR α} {f : α → List Tk → PR β} (hp : Loc m p) (hf : ∀ v, Loc m (f v)) : Loc m (fun r => (p r).bind f) := fun l hl => by
  obtain ⟨pre, h1, h2, h3⟩ := hp l hl
  cases h : p l with
  | bad r e =>
    rw [h] at h1 h3
    show ∃ pre, l = pre ++ ((p l).bind f).rs ∧ _ ∧ ∀ pre' r', _ → tri (hd r') = tri (hd ((p l).bind f).rs) → (p (pre' ++ r')).bind f = ((p l).bind f).re r'
    rw [h]
    exact ⟨pre, h1, h2, fun pre' r' a b => by rw [h3 pre' r' a b]; rfl⟩
  | ok v r =>
    rw [h] at h1 h3
    show ∃ pre, l = pre ++ ((p l).bind f).rs ∧ _ ∧ ∀ pre' r', _ → tri (hd r') = tri (hd ((p l).bind f).rs) → (p (pre' ++ r')).bind f = ((p l).bind f).re r'
    rw [h]
    have h1' : l = pre ++ r := h1
    have hr : r.length ≤ m := by rw [h1'] at hl; simp at hl; omega
    obtain ⟨pre2, g1, g2, g3⟩ := hf v r hr
    refine ⟨pre ++ pre2, ?_, fun t ht => ?_, fun pre' r' a b => ?_⟩
    · show l = pre ++ pre2 ++ (f v r).rs
      rw [List.append_assoc, ← g1]; exact h1'
    · rcases List.mem_append.1 ht with ht | ht
      · exact h2 t ht
      · exact g2 t ht
    · rw [List.map_append] at a
      obtain ⟨x, y, rfl, hx, hy⟩ := List.map_eq_append_iff.1 a
      have b' : tri (hd r') = tri (hd (f v r).rs) := b
      have h5 : tri (hd (y ++ r')) = tri (hd r) := by
        conv => rhs; rw [g1]
        exact hd_app hy b'
      rw [List.append_assoc, h3 x (y ++ r') hx h5]
      exact g3 y r' hy b'
theorem Loc.eat {α : Type} {m : Nat} (C : Int × List UInt8 × Int → Prop) [DecidablePred C] (hC : ∀ x, C x → x.2.1 ≠ [] ∨ x.1 ≠ 0) {q : Int × List UInt8 × Int → List Tk → PR α} {p : List Tk → PR α} (hq : ∀ x, C x → ∀ k, k < m → Loc k (q x)) (hp : Loc m p) :
    Loc m (fun r => if C (tri (hd r)) then q (tri (hd r)) r.tail else p r) := fun l hl => by
  by_cases h : C (tri (hd l))
  · have h0 : l ≠ [] := fun e => by
      subst e
      rcases hC _ h with h1 | h1
      · exact h1 rfl
      · exact h1 rfl
    obtain ⟨t, l1, rfl⟩ := List.exists_cons_of_ne_nil h0
    obtain ⟨pre, h1, h2, h3⟩ := hq _ h l1.length (by simp at hl; omega) l1 (Nat.le_refl _)
    have e : (if C (tri (hd (t :: l1))) then q (tri (hd (t :: l1))) (t :: l1).tail else p (t :: l1)) = q (tri t) l1 := if_pos h
    refine ⟨t :: pre, ?_, fun x hx => ?_, fun pre' r' a b => ?_⟩
    · show t :: l1 = t :: pre ++ PR.rs (if C (tri (hd (t :: l1))) then q (tri (hd (t :: l1))) (t :: l1).tail else p (t :: l1))
      rw [e, List.cons_append]
      exact congrArg (t :: ·) h1
    · rcases List.mem_cons.1 hx with hx | hx
      · subst hx; exact hC _ h
      · exact h2 x hx
    · have b' : tri (hd r') = tri (hd (PR.rs (if C (tri (hd (t :: l1))) then q (tri (hd (t :: l1))) (t :: l1).tail else p (t :: l1)))) := b
      rw [e] at b'
      cases pre' with
      | nil => simp at a
      | cons t' pre' =>
        simp only [List.map_cons, List.cons.injEq] at a
        show (if C (tri t') then q (tri t') (pre' ++ r') else p (t' :: pre' ++ r')) = PR.re r' (if C (tri (hd (t :: l1))) then q (tri (hd (t :: l1))) (t :: l1).tail else p (t :: l1))
        rw [e, a.1, if_pos (show C (tri t) from h)]
        exact h3 pre' r' a.2 b'
  · obtain ⟨pre, h1, h2, h3⟩ := hp l hl
    have e : (if C (tri (hd l)) then q (tri (hd l)) l.tail else p l) = p l := if_neg h
    refine ⟨pre, ?_, h2, fun pre' r' a b => ?_⟩
    · show l = pre ++ PR.rs (if C (tri (hd l)) then q (tri (hd l)) l.tail else p l)
      rw [e]; exact h1
    · have b' : tri (hd r') = tri (hd (PR.rs (if C (tri (hd l)) then q (tri (hd l)) l.tail else p l))) := b
      rw [e] at b'
      have h4 : tri (hd (pre' ++ r')) = tri (hd l) := by
        conv => rhs; rw [h1]
        exact hd_app a b'
      show (if C (tri (hd (pre' ++ r'))) then q (tri (hd (pre' ++ r'))) (pre' ++ r').tail else p (pre' ++ r')) = PR.re r' (if C (tri (hd l)) then q (tri (hd l)) l.tail else p l)
      rw [e, h4, if_neg h]
      exact h3 pre' r' a b'
theorem loc_must {m : Nat} {s : List UInt8} (hs : s ≠ []) : Loc m (mustP s) :=
  Loc.eat (fun x => x.2.1 = s) (fun _ h => .inl (by rw [h]; exact hs)) (q := fun _ r => PR.ok () r) (p := fun r => PR.bad r 20) (fun _ _ _ _ => Loc.pure ()) (Loc.fail 20)
theorem loc_opens {m : Nat} {s : List UInt8} (hs : s ≠ []) (o : Nat) : Loc m (opensP s o) := by
  by_cases h : o = 12
  · have e : opensP s o = fun r => if (tri (hd r)).2.1 = s then PR.bad r 2 else PR.bad r 20 := by funext r; unfold opensP; rw [if_pos h]; rfl
    rw [e]
    exact Loc.cond (fun x => x.2.1 = s) (Loc.fail 2) (Loc.fail 20)
  · have e : opensP s o = fun r => if (tri (hd r)).2.1 = s then PR.ok () r.tail else PR.bad r 20 := by funext r; unfold opensP; rw [if_neg h]; rfl
    rw [e]
    exact Loc.eat (fun x => x.2.1 = s) (fun _ h => .inl (by rw [h]; exact hs)) (q := fun _ r => PR.ok () r) (p := fun r => PR.bad r 20) (fun _ _ _ _ => Loc.pure ()) (Loc.fail 20)
theorem loc_tok {α : Type} {m : Nat} {k : Int} (hk : k ≠ 0) {f : Tk → List Tk → PR α} (hf : ∀ t t', tri t = tri t' → f t = f t') (h : ∀ t, Loc m (f t)) : Loc m (fun r => (tokP k r).bind f) := by
  have e : (fun r => (tokP k r).bind f) = fun r => if (tri (hd r)).1 = k then f ⟨(tri (hd r)).1, 0, (tri (hd r)).2.1, (tri (hd r)).2.2⟩ r.tail else PR.bad r 20 := by
    funext r
    unfold tokP
    by_cases h9 : (hd r).kd = k
    · rw [if_pos h9, if_pos (show (tri (hd r)).1 = k from h9), PR.bind_ok]
      exact congrFun (hf (hd r) ⟨(hd r).kd, 0, (hd r).tx, (hd r).nm⟩ rfl) _
    · rw [if_neg h9, if_neg (show ¬ (tri (hd r)).1 = k from h9), PR.bind_bad]
  rw [e]
  exact Loc.eat (fun x => x.1 = k) (fun _ h => .inr (by rw [h]; exact hk)) (q := fun x r => f ⟨x.1, 0, x.2.1, x.2.2⟩ r) (p := fun r => PR.bad r 20) (fun x _ k hk => (h _).mono (Nat.le_of_lt hk)) (Loc.fail 20)
theorem loc_name {m : Nat} : Loc m nameP :=
  Loc.cond (fun x => x.2.1 ∈ reserved) (Loc.fail 20) (loc_tok (by decide) (fun t t' h => by
    have : t.tx = t'.tx := congrArg (fun x => x.2.1) h
    rw [this]) fun t => Loc.pure _)
theorem loc_join {m : Nat} (lv : Nat) (op : List UInt8) (a b : Tr) : Loc m (fun r => PR.ok (joinP lv op a b r).1 (joinP lv op a b r).2) := by
  by_cases h : lv = 5
  · have e : (fun r => PR.ok (joinP lv op a b r).1 (joinP lv op a b r).2) = fun r => if (tri (hd r)).2.1 ∈ units then PR.ok (Tr.nd (if op = wMinus then 8 else 7) 0 (tri (hd r)).2.1 [a, b]) r.tail else PR.ok (Tr.nd 6 0 op [a, b]) r := by
      funext r
      unfold joinP
      by_cases h2 : (hd r).tx ∈ units
      · rw [if_pos ⟨h, h2⟩, if_pos (show (tri (hd r)).2.1 ∈ units from h2)]; rfl
      · rw [if_neg (fun x => h2 x.2), if_neg (show ¬ (tri (hd r)).2.1 ∈ units from h2)]
    rw [e]
    exact Loc.eat (fun x => x.2.1 ∈ units) (fun x h => .inl (fun e => by rw [e] at h; revert h; decide)) (q := fun x r => PR.ok (Tr.nd (if op = wMinus then 8 else 7) 0 x.2.1 [a, b]) r) (p := fun r => PR.ok (Tr.nd 6 0 op [a, b]) r) (fun _ _ _ _ => Loc.pure _) (Loc.pure _)
  · have e : (fun r => PR.ok (joinP lv op a b r).1 (joinP lv op a b r).2) = fun r => PR.ok (Tr.nd 6 0 op [a, b]) r := by
      funext r
      unfold joinP
      rw [if_neg (fun x => h x.1)]
    rw [e]
    exact Loc.pure _
theorem Loc.len {α : Type} {p : List Tk → PR α} (h : ∀ m, Loc m p) (l : List Tk) : (p l).rs.length ≤ l.length := by
  obtain ⟨pre, h1, _⟩ := h l.length l (Nat.le_refl _)
  have := congrArg List.length h1
  rw [List.length_append] at this
  omega
theorem lvOf_nil0 : lvOf [] = 0 := by decide
theorem ne_nil_of_lv {lv : Nat} (hlv : 1 ≤ lv) {r : List Tk} (h : lvOf (hd r).tx = lv) : r ≠ [] := fun e => by
  subst e
  have : lvOf (hd []).tx = 0 := lvOf_nil0
  omega
theorem join_len2 (lv : Nat) (op : List UInt8) (a b : Tr) (r : List Tk) : (joinP lv op a b r).2.length ≤ r.length := by
  unfold joinP
  split
  · simp
  · exact Nat.le_refl _
theorem loop_fuel {E : Nat → Nat → List Tk → PR Tr} (hE : ∀ lv o m, 1 ≤ lv → Loc m (E lv o)) {lv o : Nat} (hlv : 1 ≤ lv) : ∀ (g g' : Nat) (n : Tr) (r : List Tk), r.length ≤ g → r.length ≤ g' → loopP E lv o g n r = loopP E lv o g' n r := by
  intro g
  induction g with
  | zero =>
    intro g' n r h _
    have h0 : r = [] := List.length_eq_zero_iff.1 (by omega)
    cases g' with
    | zero => rfl
    | succ g' =>
      rw [loopP, loopP, if_neg fun e => ne_nil_of_lv hlv e h0]
  | succ g ih =>
    intro g' n r h h'
    cases g' with
    | zero =>
      have h0 : r = [] := List.length_eq_zero_iff.1 (by omega)
      rw [loopP, loopP, if_neg fun e => ne_nil_of_lv hlv e h0]
    | succ g' =>
      rw [loopP, loopP]
      by_cases h1 : lvOf (hd r).tx = lv
      · rw [if_pos h1, if_pos h1]
        obtain ⟨t, r1, rfl⟩ := List.exists_cons_of_ne_nil (ne_nil_of_lv hlv h1)
        have h2 := Loc.len (fun m => hE (lv + 1) o m (by omega)) (t :: r1).tail
        cases h3 : E (lv + 1) o (t :: r1).tail with
        | bad r e => rfl
        | ok b r2 =>
          rw [h3] at h2
          simp only [PR.bind_ok]
          simp only [PR.rs, List.tail_cons, List.length_cons] at h2 h h'
          by_cases h4 : lv = 4
          · rw [if_pos h4, if_pos h4]
          · rw [if_neg h4, if_neg h4]
            have h5 := join_len2 lv (hd (t :: r1)).tx n b r2
            exact ih g' _ _ (by omega) (by omega)
      · rw [if_neg h1, if_neg h1]
def LP (E : Nat → Nat → List Tk → PR Tr) (lv o : Nat) (n : Tr) (r : List Tk) : PR Tr := loopP E lv o r.length n r
theorem LP_eq {E : Nat → Nat → List Tk → PR Tr} (hE : ∀ lv o m, 1 ≤ lv → Loc m (E lv o)) {lv o : Nat} (hlv : 1 ≤ lv) (n : Tr) (r : List Tk) :
    LP E lv o n r = if lvOf (hd r).tx = lv then (E (lv + 1) o r.tail).bind fun b r2 => if lv = 4 then .ok (joinP lv (hd r).tx n b r2).1 (joinP lv (hd r).tx n b r2).2 else LP E lv o (joinP lv (hd r).tx n b r2).1 (joinP lv (hd r).tx n b r2).2 else .ok n r := by
  unfold LP
  rw [loop_fuel hE hlv r.length (r.length + 1) n r (Nat.le_refl _) (Nat.le_succ _), loopP]
  by_cases h1 : lvOf (hd r).tx = lv
  · rw [if_pos h1, if_pos h1]
    have h2 := Loc.len (fun m => hE (lv + 1) o m (by omega)) r.tail
    cases h3 : E (lv + 1) o r.tail with
    | bad r e => rfl
    | ok b r2 =>
      rw [h3] at h2
      simp only [PR.bind_ok]
      by_cases h4 : lv = 4
      · rw [if_pos h4, if_pos h4]
      · rw [if_neg h4, if_neg h4]
        have h5 := join_len2 lv (hd r).tx n b r2
        simp only [PR.rs, List.length_tail] at h2
        exact loop_fuel hE hlv _ _ _ _ (by omega) (Nat.le_refl _)
  · rw [if_neg h1, if_neg h1]
theorem loc_loop {E : Nat → Nat → List Tk → PR Tr} (hE : ∀ lv o m, 1 ≤ lv → Loc m (E lv o)) {lv o : Nat} (hlv : 1 ≤ lv) : ∀ (m : Nat) (n : Tr), Loc m (LP E lv o n) := by
  intro m
  induction m using Nat.strongRecOn with
  | ind m ih =>
    intro n
    have e : LP E lv o n = fun r => if lvOf (tri (hd r)).2.1 = lv then (E (lv + 1) o r.tail).bind fun b r2 => (PR.ok (joinP lv (tri (hd r)).2.1 n b r2).1 (joinP lv (tri (hd r)).2.1 n b r2).2).bind fun w r3 => if lv = 4 then .ok w r3 else LP E lv o w r3 else .ok n r := by
      funext r
      rw [LP_eq hE hlv]
      rfl
    rw [e]
    refine Loc.eat (fun x => lvOf x.2.1 = lv) (fun x h => .inl fun e => ?_) (q := fun x r => (E (lv + 1) o r).bind fun b r2 => (PR.ok (joinP lv x.2.1 n b r2).1 (joinP lv x.2.1 n b r2).2).bind fun w r3 => if lv = 4 then .ok w r3 else LP E lv o w r3) (p := fun r => PR.ok n r) (fun x hx k hk => ?_) (Loc.pure n)
    · simp only [e, lvOf_nil0] at h
      omega
    · refine Loc.bind (hE _ _ _ (by omega)) fun b => Loc.bind (loc_join lv x.2.1 n b) fun w => ?_
      by_cases h4 : lv = 4
      · simpa only [if_pos h4] using Loc.pure w
      · simpa only [if_neg h4] using ih k hk w
theorem argsN_tri {t t' : Tk} (h : tri t = tri t') : t.tx = t'.tx := congrArg (fun x => x.2.1) h
theorem loc_call {E : Nat → Nat → List Tk → PR Tr} (hE : ∀ lv o m, 1 ≤ lv → Loc m (E lv o)) (o m : Nat) : Loc m (callP E o) := by
  unfold callP
  refine loc_tok (by decide) (fun t t' h => by rw [argsN_tri h]) fun t => Loc.bind (loc_opens (by decide) o) fun _ => Loc.bind (hE _ _ _ (by omega)) fun a => ?_
  by_cases h : argsN t.tx = 1
  · simp only [if_pos h]
    exact Loc.bind (loc_must (by decide)) fun _ => Loc.pure _
  · simp only [if_neg h]
    exact Loc.bind (loc_must (by decide)) fun _ => Loc.bind (hE _ _ _ (by omega)) fun b => Loc.bind (loc_must (by decide)) fun _ => Loc.pure _
theorem loc_choice {E : Nat → Nat → List Tk → PR Tr} (hE : ∀ lv o m, 1 ≤ lv → Loc m (E lv o)) (o m : Nat) : Loc m (choiceP E o) :=
  Loc.bind (loc_opens (by decide) o) fun _ => Loc.bind (hE _ _ _ (by omega)) fun a => Loc.bind (loc_must (by decide)) fun _ => Loc.bind (hE _ _ _ (by omega)) fun b => Loc.bind (loc_must (by decide)) fun _ => Loc.bind (hE _ _ _ (by omega)) fun c => Loc.bind (loc_must (by decide)) fun _ => Loc.pure _
theorem loc_prim {E : Nat → Nat → List Tk → PR Tr} (hE : ∀ lv o m, 1 ≤ lv → Loc m (E lv o)) (o m : Nat) : Loc m (primP E o) := by
  unfold primP
  refine Loc.eat (fun x => x.1 = 2) (fun _ h => .inr (by rw [h]; decide)) (q := fun x r => PR.ok (Tr.nd 1 x.2.2 [] []) r) (fun _ _ _ _ => Loc.pure _) ?_
  refine Loc.eat (fun x => x.1 = 3) (fun _ h => .inr (by rw [h]; decide)) (q := fun x r => PR.ok (Tr.nd 3 x.2.2 [] []) r) (fun _ _ _ _ => Loc.pure _) ?_
  refine Loc.eat (fun x => x.2.1 = wTrue) (fun _ h => .inl (by rw [h]; decide)) (q := fun _ r => PR.ok (Tr.nd 2 1 [] []) r) (fun _ _ _ _ => Loc.pure _) ?_
  refine Loc.eat (fun x => x.2.1 = wFalse) (fun _ h => .inl (by rw [h]; decide)) (q := fun _ r => PR.ok (Tr.nd 2 0 [] []) r) (fun _ _ _ _ => Loc.pure _) ?_
  refine Loc.cond (fun x => x.2.1 = wOpen) (Loc.bind (loc_opens (by decide) o) fun _ => Loc.bind (hE _ _ _ (by omega)) fun n => Loc.bind (loc_must (by decide)) fun _ => Loc.pure n) ?_
  refine Loc.cond (fun x => x.2.1 = wIf) (loc_choice hE o m) ?_
  refine Loc.cond (fun x => x.2.1 ∈ functions) (loc_call hE o m) ?_
  exact Loc.eat (fun x => x.2.1 ∈ fields) (fun x h => .inl (fun e => by rw [e] at h; revert h; decide)) (q := fun x r => PR.ok (Tr.nd 4 0 x.2.1 []) r) (fun _ _ _ _ => Loc.pure _) (Loc.fail 20)
theorem loc_step {E : Nat → Nat → List Tk → PR Tr} (hE : ∀ lv o m, 1 ≤ lv → Loc m (E lv o)) (lv o m : Nat) (hlv : 1 ≤ lv) : Loc m (stepP E lv o) := by
  refine Loc.head (fun x r => if lv = 3 ∧ x.2.1 = wNot ∨ lv = 7 ∧ x.2.1 = wMinus then (opensP x.2.1 o r).bind fun _ r2 => (E lv (o + 1) r2).bind fun n r3 => .ok (.nd 5 0 x.2.1 [n]) r3
    else if lv = 8 then primP E o r else (E (lv + 1) o r).bind fun n r2 => LP E lv o n r2) fun x => ?_
  by_cases h : lv = 3 ∧ x.2.1 = wNot ∨ lv = 7 ∧ x.2.1 = wMinus
  · simp only [if_pos h]
    exact Loc.bind (loc_opens (by rcases h with ⟨_, h⟩ | ⟨_, h⟩ <;> rw [h] <;> decide) o) fun _ => Loc.bind (hE _ _ _ (by omega)) fun n => Loc.pure _
  · simp only [if_neg h]
    by_cases h8 : lv = 8
    · simp only [if_pos h8]; exact loc_prim hE o m
    · simp only [if_neg h8]; exact Loc.bind (hE _ _ _ (by omega)) fun n => loc_loop hE hlv m n
/-- The expressions' parser; the level 0 is not one. -/
theorem loc_expr : ∀ (f lv o m : Nat), 1 ≤ lv → Loc m (exprP f lv o)
  | 0, _, _, _, _ => Loc.fail 0
  | f + 1, lv, o, m, h => loc_step (fun lv o m h => loc_expr f lv o m h) lv o m h
theorem loc_part {α : Type} {m : Nat} {w : List UInt8} (hw : w ≠ []) (d : α) {rd : List Tk → PR α} (h : ∀ m, Loc m rd) : Loc m (partP w d rd) :=
  Loc.eat (fun x => x.2.1 = w) (fun _ h => .inl (by rw [h]; exact hw)) (q := fun _ r => (rd r).bind fun x r => (mustP wSemi r).bind fun _ r => .ok x r) (p := fun r => PR.ok d r)
    (fun _ _ _ _ => Loc.bind (h _) fun _ => Loc.bind (loc_must (by decide)) fun _ => Loc.pure _) (Loc.pure d)
/-- A parser that ends behind a token that it names: what follows is not looked at. -/
def LocS {α : Type} (m : Nat) (p : List Tk → PR α) : Prop := ∀ l v r, l.length ≤ m → p l = .ok v r → ∃ pre, l = pre ++ r ∧ pre ≠ [] ∧ (∀ t ∈ pre, NE t) ∧ ∀ pre' r', pre'.map tri = pre.map tri → p (pre' ++ r') = .ok v r'
theorem LocS.bind {α β : Type} {m : Nat} {p : List Tk → PR α} {f : α → List Tk → PR β} (hp : Loc m p) (hf : ∀ v, LocS m (f v)) : LocS m (fun r => (p r).bind f) := fun l v r hl h => by
  obtain ⟨pre, h1, h2, h3⟩ := hp l hl
  cases hp1 : p l with
  | bad r1 e =>
    simp only [hp1, PR.bind_bad] at h
    cases h
  | ok v1 r1 =>
    simp only [hp1, PR.bind_ok] at h
    rw [hp1] at h1 h3
    have h1' : l = pre ++ r1 := h1
    have hr : r1.length ≤ m := by rw [h1'] at hl; simp at hl; omega
    obtain ⟨pre2, g1, g2, g3, g4⟩ := hf v1 r1 v r hr h
    refine ⟨pre ++ pre2, by rw [h1', g1, List.append_assoc], by simp [g2], fun t ht => ?_, fun pre' r' a => ?_⟩
    · rcases List.mem_append.1 ht with ht | ht
      · exact h2 t ht
      · exact g3 t ht
    · rw [List.map_append] at a
      obtain ⟨x, y, rfl, hx, hy⟩ := List.map_eq_append_iff.1 a
      have h5 : tri (hd (y ++ r')) = tri (hd r1) := by
        rw [g1]
        cases pre2 with
        | nil => exact absurd rfl g2
        | cons t2 pre2 =>
          cases y with
          | nil => simp at hy
          | cons t3 y =>
            simp only [List.map_cons, List.cons.injEq] at hy
            exact hy.1
      show (p (x ++ y ++ r')).bind f = _
      rw [List.append_assoc, h3 x (y ++ r') hx h5]
      exact g4 y r' hy
theorem locS_must {α : Type} {m : Nat} {s : List UInt8} (hs : s ≠ []) (v : α) : LocS m (fun r => (mustP s r).bind fun _ r => .ok v r) := fun l v' r hl h => by
  simp only [mustP] at h
  split at h
  · rename_i h1
    simp only [PR.bind_ok, PR.ok.injEq] at h
    obtain ⟨rfl, rfl⟩ := h
    cases l with
    | nil => exact absurd h1.symm hs
    | cons t l =>
      have h1' : t.tx = s := h1
      refine ⟨[t], rfl, by simp, fun x hx => ?_, fun pre' r' a => ?_⟩
      · obtain rfl : x = t := by simpa using hx
        exact .inl (by rw [h1']; exact hs)
      · cases pre' with
        | nil => simp at a
        | cons t' pre' =>
          simp only [List.map_cons, List.map_nil, List.cons.injEq, List.map_eq_nil_iff] at a
          obtain ⟨a1, rfl⟩ := a
          have h2 : t'.tx = s := (argsN_tri a1).trans h1'
          show (mustP s (t' :: r')).bind _ = _
          unfold mustP
          rw [if_pos (show (hd (t' :: r')).tx = s from h2)]
          rfl
  · cases h
theorem locS_rule {m : Nat} {E : List Tk → PR Tr} (hE : ∀ m, Loc m E) : LocS m (ruleP E) := by
  unfold ruleP
  refine LocS.bind (loc_must (by decide)) fun _ => LocS.bind loc_name fun nm => LocS.bind (loc_must (by decide)) fun _ => ?_
  have h : ∀ d : Int, LocS m (fun r => (mustP wBrace r).bind fun _ r => (mustP wOn r).bind fun _ r => (nameP r).bind fun on_ r => (mustP wSemi r).bind fun _ r => (partP wIf trTrue E r).bind fun i r =>
      (mustP wDue r).bind fun _ r => (E r).bind fun due r => (mustP wSemi r).bind fun _ r => (partP wUnless [] nameP r).bind fun u r => (partP wElse [] nameP r).bind fun e r =>
        (mustP wBraceE r).bind fun _ r => PR.ok (⟨nm, d, on_, i, due, u, e⟩ : Rl) r) := fun d =>
    LocS.bind (loc_must (by decide)) fun _ => LocS.bind (loc_must (by decide)) fun _ => LocS.bind loc_name fun _ => LocS.bind (loc_must (by decide)) fun _ => LocS.bind (loc_part (by decide) _ hE) fun _ =>
      LocS.bind (loc_must (by decide)) fun _ => LocS.bind (hE _) fun _ => LocS.bind (loc_must (by decide)) fun _ => LocS.bind (loc_part (by decide) _ fun _ => loc_name) fun _ => LocS.bind (loc_part (by decide) _ fun _ => loc_name) fun _ => locS_must (by decide) _
  have e : (fun r => (tokP 3 r).bind fun d r => (mustP wBrace r).bind fun _ r => (mustP wOn r).bind fun _ r => (nameP r).bind fun on_ r => (mustP wSemi r).bind fun _ r => (partP wIf trTrue E r).bind fun i r =>
      (mustP wDue r).bind fun _ r => (E r).bind fun due r => (mustP wSemi r).bind fun _ r => (partP wUnless [] nameP r).bind fun u r => (partP wElse [] nameP r).bind fun e r =>
        (mustP wBraceE r).bind fun _ r => PR.ok (⟨nm, d.nm, on_, i, due, u, e⟩ : Rl) r) = fun r => ((tokP 3 r).bind fun d r => PR.ok d.nm r).bind fun d r => (mustP wBrace r).bind fun _ r => (mustP wOn r).bind fun _ r => (nameP r).bind fun on_ r => (mustP wSemi r).bind fun _ r => (partP wIf trTrue E r).bind fun i r =>
      (mustP wDue r).bind fun _ r => (E r).bind fun due r => (mustP wSemi r).bind fun _ r => (partP wUnless [] nameP r).bind fun u r => (partP wElse [] nameP r).bind fun e r =>
        (mustP wBraceE r).bind fun _ r => PR.ok (⟨nm, d, on_, i, due, u, e⟩ : Rl) r := by
    funext r
    cases tokP 3 r <;> rfl
  rw [e]
  exact LocS.bind (loc_tok (by decide) (fun t t' h => by rw [show t.nm = t'.nm from congrArg (fun x => x.2.2) h]) fun t => Loc.pure _) h
theorem rules_fuel {E : List Tk → PR Tr} (hE : ∀ m, Loc m E) : ∀ (g g' : Nat) (l : List Rl) (r : List Tk), r.length ≤ g → r.length ≤ g' → rulesP E g l r = rulesP E g' l r := by
  intro g
  induction g with
  | zero =>
    intro g' l r h _
    obtain rfl : r = [] := List.length_eq_zero_iff.1 (by omega)
    cases g' with
    | zero => rfl
    | succ g' => rw [rulesP, rulesP, if_pos (show (hd []).kd = 0 from rfl)]
  | succ g ih =>
    intro g' l r h h'
    cases g' with
    | zero =>
      obtain rfl : r = [] := List.length_eq_zero_iff.1 (by omega)
      rw [rulesP, rulesP, if_pos (show (hd []).kd = 0 from rfl)]
    | succ g' =>
      rw [rulesP, rulesP]
      by_cases h0 : (hd r).kd = 0
      · rw [if_pos h0, if_pos h0]
      · rw [if_neg h0, if_neg h0]
        cases h3 : ruleP E r with
        | bad r2 e => rfl
        | ok x r2 =>
          simp only [PR.bind_ok]
          obtain ⟨pre, h4, h5, _⟩ := locS_rule (m := r.length) hE r x r2 (Nat.le_refl _) h3
          have h6 := congrArg List.length h4
          have h7 := List.length_pos_iff.2 h5
          rw [List.length_append] at h6
          exact ih g' _ _ (by omega) (by omega)
def RP (E : List Tk → PR Tr) (l : List Rl) (r : List Tk) : PR (List Rl) := rulesP E r.length l r
theorem RP_eq {E : List Tk → PR Tr} (hE : ∀ m, Loc m E) (l : List Rl) (r : List Tk) : RP E l r = if (hd r).kd = 0 then .ok l r else (ruleP E r).bind fun x r2 => RP E (l ++ [x]) r2 := by
  unfold RP
  rw [rules_fuel hE r.length (r.length + 1) l r (Nat.le_refl _) (Nat.le_succ _), rulesP]
  by_cases h0 : (hd r).kd = 0
  · rw [if_pos h0, if_pos h0]
  · rw [if_neg h0, if_neg h0]
    cases h3 : ruleP E r with
    | bad r2 e => rfl
    | ok x r2 =>
      simp only [PR.bind_ok]
      obtain ⟨pre, h4, h5, _⟩ := locS_rule (m := r.length) hE r x r2 (Nat.le_refl _) h3
      have h6 := congrArg List.length h4
      rw [List.length_append] at h6
      exact rules_fuel hE _ _ _ _ (by omega) (Nat.le_refl _)
end Go.Proofs.YtnpenepdechkjaaGreatDoor

/- What the parser's trees are like: their root's kind is never 0. -/
namespace Go.Proofs.YtnpenepdechkjaaGreatDoor
open Go

def trK : Tr → Int
  | .nd k _ _ _ => k
theorem PR.bind_inv {α β : Type} {x : PR α} {f : α → List Tk → PR β} {v : β} {r : List Tk} (h : x.bind f = .ok v r) : ∃ a r1, x = .ok a r1 ∧ f a r1 = .ok v r := by
  cases x with
  | ok a r1 => exact ⟨a, r1, rfl, h⟩
  | bad r1 e => cases h
theorem PR.ok_inj {α : Type} {a b : α} {r s : List Tk} (h : PR.ok a r = PR.ok b s) : a = b ∧ r = s := by injection h with h1 h2; exact ⟨h1, h2⟩
theorem join_kind (lv : Nat) (op : List UInt8) (a b : Tr) (r : List Tk) : trK (joinP lv op a b r).1 ≠ 0 := by
  unfold joinP
  split
  · simp only [trK]; split <;> decide
  · simp [trK]
theorem loop_kind (E : Nat → Nat → List Tk → PR Tr) (lv o : Nat) : ∀ (g : Nat) (n : Tr) (r : List Tk) (t : Tr) (r' : List Tk), trK n ≠ 0 → loopP E lv o g n r = .ok t r' → trK t ≠ 0
  | 0, n, r, t, r', hn, h => by
    rw [loopP] at h
    obtain ⟨rfl, _⟩ := PR.ok_inj h
    exact hn
  | g + 1, n, r, t, r', hn, h => by
    rw [loopP] at h
    split at h
    · obtain ⟨b, r2, _, h2⟩ := PR.bind_inv h
      split at h2
      · obtain ⟨rfl, _⟩ := PR.ok_inj h2
        exact join_kind _ _ _ _ _
      · exact loop_kind E lv o g _ _ _ _ (join_kind _ _ _ _ _) h2
    · obtain ⟨rfl, _⟩ := PR.ok_inj h
      exact hn
theorem call_kind {E : Nat → Nat → List Tk → PR Tr} {o : Nat} {r : List Tk} {t : Tr} {r' : List Tk} (h : callP E o r = .ok t r') : trK t ≠ 0 := by
  unfold callP at h
  obtain ⟨x, r1, _, h⟩ := PR.bind_inv h
  obtain ⟨_, r2, _, h⟩ := PR.bind_inv h
  obtain ⟨a, r3, _, h⟩ := PR.bind_inv h
  split at h
  · obtain ⟨_, r4, _, h⟩ := PR.bind_inv h
    obtain ⟨rfl, _⟩ := PR.ok_inj h
    simp [trK]
  · obtain ⟨_, r4, _, h⟩ := PR.bind_inv h
    obtain ⟨_, r5, _, h⟩ := PR.bind_inv h
    obtain ⟨_, r6, _, h⟩ := PR.bind_inv h
    obtain ⟨rfl, _⟩ := PR.ok_inj h
    simp [trK]
theorem choice_kind {E : Nat → Nat → List Tk → PR Tr} {o : Nat} {r : List Tk} {t : Tr} {r' : List Tk} (h : choiceP E o r = .ok t r') : trK t ≠ 0 := by
  unfold choiceP at h
  obtain ⟨_, r1, _, h⟩ := PR.bind_inv h
  obtain ⟨_, r1, _, h⟩ := PR.bind_inv h
  obtain ⟨_, r1, _, h⟩ := PR.bind_inv h
  obtain ⟨_, r1, _, h⟩ := PR.bind_inv h
  obtain ⟨_, r1, _, h⟩ := PR.bind_inv h
  obtain ⟨_, r1, _, h⟩ := PR.bind_inv h
  obtain ⟨_, r1, _, h⟩ := PR.bind_inv h
  obtain ⟨rfl, _⟩ := PR.ok_inj h
  simp [trK]
theorem prim_kind {E : Nat → Nat → List Tk → PR Tr} (hE : ∀ lv o r t r', E lv o r = .ok t r' → trK t ≠ 0) {o : Nat} {r : List Tk} {t : Tr} {r' : List Tk} (h : primP E o r = .ok t r') : trK t ≠ 0 := by
  unfold primP at h
  split at h
  · obtain ⟨rfl, _⟩ := PR.ok_inj h; simp [trK]
  split at h
  · obtain ⟨rfl, _⟩ := PR.ok_inj h; simp [trK]
  split at h
  · obtain ⟨rfl, _⟩ := PR.ok_inj h; simp [trK]
  split at h
  · obtain ⟨rfl, _⟩ := PR.ok_inj h; simp [trK]
  split at h
  · obtain ⟨_, r1, _, h⟩ := PR.bind_inv h
    obtain ⟨n, r2, h2, h⟩ := PR.bind_inv h
    obtain ⟨_, r3, _, h⟩ := PR.bind_inv h
    obtain ⟨rfl, _⟩ := PR.ok_inj h
    exact hE _ _ _ _ _ h2
  split at h
  · exact choice_kind h
  split at h
  · exact call_kind h
  split at h
  · obtain ⟨rfl, _⟩ := PR.ok_inj h; simp [trK]
  · cases h
theorem expr_kind : ∀ (f lv o : Nat) (r : List Tk) (t : Tr) (r' : List Tk), exprP f lv o r = .ok t r' → trK t ≠ 0
  | 0, _, _, _, _, _, h => by cases h
  | f + 1, lv, o, r, t, r', h => by
    rw [exprP, stepP] at h
    split at h
    · obtain ⟨_, r1, _, h⟩ := PR.bind_inv h
      obtain ⟨n, r2, _, h⟩ := PR.bind_inv h
      obtain ⟨rfl, _⟩ := PR.ok_inj h
      simp [trK]
    split at h
    · exact prim_kind (fun lv o r t r' => expr_kind f lv o r t r') h
    · obtain ⟨n, r2, h1, h⟩ := PR.bind_inv h
      exact loop_kind _ _ _ _ _ _ _ _ (expr_kind f _ _ _ _ _ h1) h
/-- The word of a part is there: it is read as the part. -/
theorem part_on {α β : Type} {w : List UInt8} {r : List Tk} (h : (hd r).tx = w) (d : α) (rd : List Tk → PR α) (K : α → List Tk → PR β) :
    ((mustP w r).bind fun _ r => (rd r).bind fun x r => (mustP wSemi r).bind fun _ r => K x r) = (partP w d rd r).bind K := by
  unfold partP mustP
  rw [if_pos h, if_pos h, PR.bind_ok]
  cases rd r.tail with
  | bad r e => rfl
  | ok x r =>
    simp only [PR.bind_ok]
    split <;> rfl
theorem part_if {E : List Tk → PR Tr} (hE : ∀ r t r', E r = .ok t r' → trK t ≠ 0) (d d' : Tr) (hd0 : trK d = 0) (w : List UInt8) (r : List Tk) :
    (∀ t r', partP w d E r = .ok t r' → partP w d' E r = .ok (if trK t = 0 then d' else t) r') ∧ ∀ r' e, partP w d E r = .bad r' e → partP w d' E r = .bad r' e := by
  unfold partP
  by_cases h : (hd r).tx = w
  · rw [if_pos h, if_pos h]
    refine ⟨fun t r' h1 => ?_, fun r' e h1 => h1⟩
    have h2 := h1
    obtain ⟨x, r1, h3, h4⟩ := PR.bind_inv h1
    obtain ⟨_, r2, h5, h6⟩ := PR.bind_inv h4
    obtain ⟨rfl, rfl⟩ := PR.ok_inj h6
    rw [if_neg (hE _ _ _ h3)]
    exact h2
  · rw [if_neg h, if_neg h]
    refine ⟨fun t r' h1 => ?_, fun r' e h1 => by cases h1⟩
    obtain ⟨rfl, rfl⟩ := PR.ok_inj h1
    rw [if_pos hd0]
end Go.Proofs.YtnpenepdechkjaaGreatDoor

/- The production's rule. -/
namespace Go.Proofs.YtnpenepdechkjaaGreatDoor
open Go Go.RowKit

/-- A rule in a block of its own, whole. -/
def RX (W : World) (g : Nat) (d : RlD) : Prop := W.heap[g]? = some (.cells #[.string d.name, .int .i64 d.from_, .string d.on_, .int .i64 d.if_.k, .int .i64 d.if_.n, .string d.if_.s, .slice d.if_.A d.if_.m d.if_.c, .int .i64 d.due.k, .int .i64 d.due.n, .string d.due.s, .slice d.due.A d.due.m d.due.c, .string d.unless_, .string d.else_] 50 (0, 0))
def nd0 : Nd := ⟨0, 0, ⟨#[]⟩, none, 0, 0⟩
def rl0 : RlD := ⟨⟨#[]⟩, 0, ⟨#[]⟩, nd0, nd0, ⟨#[]⟩, ⟨#[]⟩⟩
theorem RX.mv {W W' : World} {b g : Nat} {d : RlD} (h : RX W g d) (hm : Mv b W W') (hg : g ≠ b) : RX W' g d := (hm.keep g hg (lt_of_block h)).trans h
theorem RX.fz {W : World} {g : Nat} {d : RlD} (h : RX W g d) (i : Nat) : W.frozen? ⟨g, i, none⟩ = false := frozen_of_row W g i _ 50 h
theorem RX.cs {W : World} {g : Nat} {d : RlD} (h : RX W g d) : W.cell? ⟨g, 0, none⟩ = some (.string d.name) ∧ W.cell? ⟨g, 1, none⟩ = some (.int .i64 d.from_) ∧ W.cell? ⟨g, 2, none⟩ = some (.string d.on_) ∧ W.cell? ⟨g, 3, none⟩ = some (.int .i64 d.if_.k) ∧ W.cell? ⟨g, 4, none⟩ = some (.int .i64 d.if_.n) ∧ W.cell? ⟨g, 5, none⟩ = some (.string d.if_.s) ∧ W.cell? ⟨g, 6, none⟩ = some (.slice d.if_.A d.if_.m d.if_.c) ∧ W.cell? ⟨g, 7, none⟩ = some (.int .i64 d.due.k) ∧ W.cell? ⟨g, 8, none⟩ = some (.int .i64 d.due.n) ∧ W.cell? ⟨g, 9, none⟩ = some (.string d.due.s) ∧ W.cell? ⟨g, 10, none⟩ = some (.slice d.due.A d.due.m d.due.c) ∧ W.cell? ⟨g, 11, none⟩ = some (.string d.unless_) ∧ W.cell? ⟨g, 12, none⟩ = some (.string d.else_) :=
  ⟨by rw [cell_of_row W _ _ _ 50 (0, 0) h]; rfl, by rw [cell_of_row W _ _ _ 50 (0, 0) h]; rfl, by rw [cell_of_row W _ _ _ 50 (0, 0) h]; rfl, by rw [cell_of_row W _ _ _ 50 (0, 0) h]; rfl, by rw [cell_of_row W _ _ _ 50 (0, 0) h]; rfl, by rw [cell_of_row W _ _ _ 50 (0, 0) h]; rfl, by rw [cell_of_row W _ _ _ 50 (0, 0) h]; rfl, by rw [cell_of_row W _ _ _ 50 (0, 0) h]; rfl, by rw [cell_of_row W _ _ _ 50 (0, 0) h]; rfl, by rw [cell_of_row W _ _ _ 50 (0, 0) h]; rfl, by rw [cell_of_row W _ _ _ 50 (0, 0) h]; rfl, by rw [cell_of_row W _ _ _ 50 (0, 0) h]; rfl, by rw [cell_of_row W _ _ _ 50 (0, 0) h]; rfl⟩
theorem RX.zs {W : World} {g : Nat} {d : RlD} (h : RX W g d) : W.frozen? ⟨g, 0, none⟩ = false ∧ W.frozen? ⟨g, 1, none⟩ = false ∧ W.frozen? ⟨g, 2, none⟩ = false ∧ W.frozen? ⟨g, 3, none⟩ = false ∧ W.frozen? ⟨g, 4, none⟩ = false ∧ W.frozen? ⟨g, 5, none⟩ = false ∧ W.frozen? ⟨g, 6, none⟩ = false ∧ W.frozen? ⟨g, 7, none⟩ = false ∧ W.frozen? ⟨g, 8, none⟩ = false ∧ W.frozen? ⟨g, 9, none⟩ = false ∧ W.frozen? ⟨g, 10, none⟩ = false ∧ W.frozen? ⟨g, 11, none⟩ = false ∧ W.frozen? ⟨g, 12, none⟩ = false := ⟨h.fz 0, h.fz 1, h.fz 2, h.fz 3, h.fz 4, h.fz 5, h.fz 6, h.fz 7, h.fz 8, h.fz 9, h.fz 10, h.fz 11, h.fz 12⟩
def fin13 (X : World) (g : Nat) (d : RlD) : World := ((((((((((((X.setCell ⟨g, 0, none⟩ (.string d.name)).setCell ⟨g, 1, none⟩ (.int .i64 d.from_)).setCell ⟨g, 2, none⟩ (.string d.on_)).setCell ⟨g, 3, none⟩ (.int .i64 d.if_.k)).setCell ⟨g, 4, none⟩ (.int .i64 d.if_.n)).setCell ⟨g, 5, none⟩ (.string d.if_.s)).setCell ⟨g, 6, none⟩ (.slice d.if_.A d.if_.m d.if_.c)).setCell ⟨g, 7, none⟩ (.int .i64 d.due.k)).setCell ⟨g, 8, none⟩ (.int .i64 d.due.n)).setCell ⟨g, 9, none⟩ (.string d.due.s)).setCell ⟨g, 10, none⟩ (.slice d.due.A d.due.m d.due.c)).setCell ⟨g, 11, none⟩ (.string d.unless_)).setCell ⟨g, 12, none⟩ (.string d.else_)
theorem fin13_other (X : World) (g k : Nat) (d : RlD) (h : k ≠ g) : (fin13 X g d).heap[k]? = X.heap[k]? := by
  unfold fin13
  rw [heap_setCell_other _ _ _ _ (by simpa using h), heap_setCell_other _ _ _ _ (by simpa using h), heap_setCell_other _ _ _ _ (by simpa using h), heap_setCell_other _ _ _ _ (by simpa using h), heap_setCell_other _ _ _ _ (by simpa using h), heap_setCell_other _ _ _ _ (by simpa using h), heap_setCell_other _ _ _ _ (by simpa using h), heap_setCell_other _ _ _ _ (by simpa using h), heap_setCell_other _ _ _ _ (by simpa using h), heap_setCell_other _ _ _ _ (by simpa using h), heap_setCell_other _ _ _ _ (by simpa using h), heap_setCell_other _ _ _ _ (by simpa using h), heap_setCell_other _ _ _ _ (by simpa using h)]
theorem fin13_size (X : World) (g : Nat) (d : RlD) : (fin13 X g d).heap.size = X.heap.size := by simp [fin13]
theorem Mv.fin13 {W X : World} {b : Nat} (h : Mv b W X) (d : RlD) : Mv b W (fin13 X W.heap.size d) :=
  (((((((((((((h.setNew (p := ⟨W.heap.size, 0, none⟩) (Nat.le_refl _) _).setNew (p := ⟨W.heap.size, 1, none⟩) (Nat.le_refl _) _).setNew (p := ⟨W.heap.size, 2, none⟩) (Nat.le_refl _) _).setNew (p := ⟨W.heap.size, 3, none⟩) (Nat.le_refl _) _).setNew (p := ⟨W.heap.size, 4, none⟩) (Nat.le_refl _) _).setNew (p := ⟨W.heap.size, 5, none⟩) (Nat.le_refl _) _).setNew (p := ⟨W.heap.size, 6, none⟩) (Nat.le_refl _) _).setNew (p := ⟨W.heap.size, 7, none⟩) (Nat.le_refl _) _).setNew (p := ⟨W.heap.size, 8, none⟩) (Nat.le_refl _) _).setNew (p := ⟨W.heap.size, 9, none⟩) (Nat.le_refl _) _).setNew (p := ⟨W.heap.size, 10, none⟩) (Nat.le_refl _) _).setNew (p := ⟨W.heap.size, 11, none⟩) (Nat.le_refl _) _).setNew (p := ⟨W.heap.size, 12, none⟩) (Nat.le_refl _) _)
theorem PB.fin13 {W X : World} {b : Nat} {A : Option Addr} {N c : Nat} {toks : List Tk} {a o a0 o0 : Nat} (h0 : PB W b A N c toks a0 o0) (h : PB X b A N c toks a o) (d : RlD) : PB (fin13 X W.heap.size d) b A N c toks a o :=
  (h0.setNew (h0.setNew (h0.setNew (h0.setNew (h0.setNew (h0.setNew (h0.setNew (h0.setNew (h0.setNew (h0.setNew (h0.setNew (h0.setNew (h0.setNew h (p := ⟨W.heap.size, 0, none⟩) (Nat.le_refl _) _) (p := ⟨W.heap.size, 1, none⟩) (Nat.le_refl _) _) (p := ⟨W.heap.size, 2, none⟩) (Nat.le_refl _) _) (p := ⟨W.heap.size, 3, none⟩) (Nat.le_refl _) _) (p := ⟨W.heap.size, 4, none⟩) (Nat.le_refl _) _) (p := ⟨W.heap.size, 5, none⟩) (Nat.le_refl _) _) (p := ⟨W.heap.size, 6, none⟩) (Nat.le_refl _) _) (p := ⟨W.heap.size, 7, none⟩) (Nat.le_refl _) _) (p := ⟨W.heap.size, 8, none⟩) (Nat.le_refl _) _) (p := ⟨W.heap.size, 9, none⟩) (Nat.le_refl _) _) (p := ⟨W.heap.size, 10, none⟩) (Nat.le_refl _) _) (p := ⟨W.heap.size, 11, none⟩) (Nat.le_refl _) _) (p := ⟨W.heap.size, 12, none⟩) (Nat.le_refl _) _)
/-- Where the walk of rule stands: the rule so far lies in the block g. -/
structure RS (W : World) (b : Nat) (A : Option Addr) (N c : Nat) (toks : List Tk) (o a0 a g : Nat) (d : RlD) (ti td : Tr) (X : World) : Prop where
  pb : PB X b A N c toks a o
  rx : RX X g d
  gx : RX X W.heap.size rl0
  mv : Mv b W X
  ti : Rep X (fun k => W.heap.size + 1 ≤ k ∧ k ≠ g) d.if_ ti
  td : Rep X (fun k => W.heap.size + 1 ≤ k ∧ k ≠ g) d.due td
  gb : W.heap.size + 1 ≤ g
  bb : b < W.heap.size
  le : a0 ≤ a
section
variable {W : World} {b : Nat} {A : Option Addr} {N c : Nat} {toks : List Tk} {o : Nat} {a0 a g : Nat} {d : RlD} {ti td : Tr} {X : World}
theorem RS.step (h : RS W b A N c toks o a0 a g d ti td X) {a' : Nat} {X' : World} (hp : PB X' b A N c toks a' o) (hm : Mv b X X') (ha : a ≤ a') : RS W b A N c toks o a0 a' g d ti td X' :=
  ⟨hp, h.rx.mv hm (by have := h.gb; have := h.bb; omega), h.gx.mv hm (by have := h.bb; omega), h.mv.trans hm, h.ti.mv hm (fun k hk => by have := h.bb; omega), h.td.mv hm (fun k hk => by have := h.bb; omega), h.gb, h.bb, Nat.le_trans h.le ha⟩
theorem RS.ext (h : RS W b A N c toks o a0 a g d ti td X) {X' : World} (hx : Ext X X') : RS W b A N c toks o a0 a g d ti td X' := h.step (h.pb.ext hx) (Mv.of_ext hx) (Nat.le_refl _)
theorem RS.store (h : RS W b A N c toks o a0 a g d ti td X) (h0 : PB W b A N c toks a0 o) {d' : RlD} {ti' td' : Tr} {X' : World} (hx : RX X' g d') (hs : X'.heap.size = X.heap.size) (hk : ∀ k, k ≠ g → X'.heap[k]? = X.heap[k]?)
    (hmv : Mv b W X → Mv b W X') (hi : Rep X (fun k => W.heap.size + 1 ≤ k ∧ k ≠ g) d'.if_ ti') (hd : Rep X (fun k => W.heap.size + 1 ≤ k ∧ k ≠ g) d'.due td') : RS W b A N c toks o a0 a g d' ti' td' X' :=
  ⟨h.pb.keep W.heap.size h0.lt h0.lts (fun k hk' => hk k (by have := h.gb; omega)), hx, (hk _ (by have := h.gb; omega)).trans h.gx, hmv h.mv, hi.keep (by omega) (fun k h1 _ => hk k h1.2), hd.keep (by omega) (fun k h1 _ => hk k h1.2), h.gb, h.bb, h.le⟩
theorem RS.set1 (h : RS W b A N c toks o a0 a g d ti td X) (h0 : PB W b A N c toks a0 o) (v : Int) : RS W b A N c toks o a0 a g { d with from_ := v } ti td (X.setCell ⟨g, 1, none⟩ (.int .i64 v)) :=
  h.store h0 (show RX _ g { d with from_ := v } from ((heap_setCell_same _ g 1 _ 50 _ h.rx).trans rfl)) (by simp) (fun k hk => by rw [heap_setCell_other _ _ _ _ (by simpa using hk)]) (fun hm => (hm.setNew (p := ⟨g, 1, none⟩) (Nat.le_of_succ_le h.gb) _)) (h.ti) (h.td)
theorem RS.set2 (h : RS W b A N c toks o a0 a g d ti td X) (h0 : PB W b A N c toks a0 o) (v : ByteArray) : RS W b A N c toks o a0 a g { d with on_ := v } ti td (X.setCell ⟨g, 2, none⟩ (.string v)) :=
  h.store h0 (show RX _ g { d with on_ := v } from ((heap_setCell_same _ g 2 _ 50 _ h.rx).trans rfl)) (by simp) (fun k hk => by rw [heap_setCell_other _ _ _ _ (by simpa using hk)]) (fun hm => (hm.setNew (p := ⟨g, 2, none⟩) (Nat.le_of_succ_le h.gb) _)) (h.ti) (h.td)
theorem RS.set11 (h : RS W b A N c toks o a0 a g d ti td X) (h0 : PB W b A N c toks a0 o) (v : ByteArray) : RS W b A N c toks o a0 a g { d with unless_ := v } ti td (X.setCell ⟨g, 11, none⟩ (.string v)) :=
  h.store h0 (show RX _ g { d with unless_ := v } from ((heap_setCell_same _ g 11 _ 50 _ h.rx).trans rfl)) (by simp) (fun k hk => by rw [heap_setCell_other _ _ _ _ (by simpa using hk)]) (fun hm => (hm.setNew (p := ⟨g, 11, none⟩) (Nat.le_of_succ_le h.gb) _)) (h.ti) (h.td)
theorem RS.set12 (h : RS W b A N c toks o a0 a g d ti td X) (h0 : PB W b A N c toks a0 o) (v : ByteArray) : RS W b A N c toks o a0 a g { d with else_ := v } ti td (X.setCell ⟨g, 12, none⟩ (.string v)) :=
  h.store h0 (show RX _ g { d with else_ := v } from ((heap_setCell_same _ g 12 _ 50 _ h.rx).trans rfl)) (by simp) (fun k hk => by rw [heap_setCell_other _ _ _ _ (by simpa using hk)]) (fun hm => (hm.setNew (p := ⟨g, 12, none⟩) (Nat.le_of_succ_le h.gb) _)) (h.ti) (h.td)
theorem RS.setI (h : RS W b A N c toks o a0 a g d ti td X) (h0 : PB W b A N c toks a0 o) (x : Nd) (t : Tr) (hx : Rep X (fun k => W.heap.size + 1 ≤ k ∧ k ≠ g) x t) : RS W b A N c toks o a0 a g { d with if_ := x } t td ((((X.setCell ⟨g, 3, none⟩ (.int .i64 x.k)).setCell ⟨g, 4, none⟩ (.int .i64 x.n)).setCell ⟨g, 5, none⟩ (.string x.s)).setCell ⟨g, 6, none⟩ (.slice x.A x.m x.c)) :=
  h.store h0 (show RX _ g { d with if_ := x } from ((heap_setCell_same _ g 6 _ 50 _ ((heap_setCell_same _ g 5 _ 50 _ ((heap_setCell_same _ g 4 _ 50 _ ((heap_setCell_same _ g 3 _ 50 _ h.rx).trans rfl)).trans rfl)).trans rfl)).trans rfl)) (by simp) (fun k hk => by rw [heap_setCell_other _ _ _ _ (by simpa using hk), heap_setCell_other _ _ _ _ (by simpa using hk), heap_setCell_other _ _ _ _ (by simpa using hk), heap_setCell_other _ _ _ _ (by simpa using hk)]) (fun hm => ((((hm.setNew (p := ⟨g, 3, none⟩) (Nat.le_of_succ_le h.gb) _).setNew (p := ⟨g, 4, none⟩) (Nat.le_of_succ_le h.gb) _).setNew (p := ⟨g, 5, none⟩) (Nat.le_of_succ_le h.gb) _).setNew (p := ⟨g, 6, none⟩) (Nat.le_of_succ_le h.gb) _)) (hx) (h.td)
theorem RS.setD (h : RS W b A N c toks o a0 a g d ti td X) (h0 : PB W b A N c toks a0 o) (x : Nd) (t : Tr) (hx : Rep X (fun k => W.heap.size + 1 ≤ k ∧ k ≠ g) x t) : RS W b A N c toks o a0 a g { d with due := x } ti t ((((X.setCell ⟨g, 7, none⟩ (.int .i64 x.k)).setCell ⟨g, 8, none⟩ (.int .i64 x.n)).setCell ⟨g, 9, none⟩ (.string x.s)).setCell ⟨g, 10, none⟩ (.slice x.A x.m x.c)) :=
  h.store h0 (show RX _ g { d with due := x } from ((heap_setCell_same _ g 10 _ 50 _ ((heap_setCell_same _ g 9 _ 50 _ ((heap_setCell_same _ g 8 _ 50 _ ((heap_setCell_same _ g 7 _ 50 _ h.rx).trans rfl)).trans rfl)).trans rfl)).trans rfl)) (by simp) (fun k hk => by rw [heap_setCell_other _ _ _ _ (by simpa using hk), heap_setCell_other _ _ _ _ (by simpa using hk), heap_setCell_other _ _ _ _ (by simpa using hk), heap_setCell_other _ _ _ _ (by simpa using hk)]) (fun hm => ((((hm.setNew (p := ⟨g, 7, none⟩) (Nat.le_of_succ_le h.gb) _).setNew (p := ⟨g, 8, none⟩) (Nat.le_of_succ_le h.gb) _).setNew (p := ⟨g, 9, none⟩) (Nat.le_of_succ_le h.gb) _).setNew (p := ⟨g, 10, none⟩) (Nat.le_of_succ_le h.gb) _)) (h.ti) (hx)
end
theorem fieldNm (x0 x1 x2 : Value) (s : Int) (w : World) : (Instr.field 46 (.agg #[x0, x1, x2, .int .i64 s]) 3).run Tryz.prog w = .ok (.int .i64 s) w := by simp [Instr.field, go_sem, asAgg]
def RRl (base : Nat) (W : World) (x : Rl) (v : Value) : Prop := ∃ d : RlD, v = d.val ∧ RepR W (fun k => base ≤ k) d x
theorem rep_kind {W : World} {P : Nat → Prop} {d : Nd} {t : Tr} (h : Rep W P d t) : d.k = trK t := by cases h; rfl
set_option maxHeartbeats 4000000 in
set_option maxRecDepth 100000 in
theorem prule_any (f : Nat) {W : World} {b : Nat} {A : Option Addr} {N c : Nat} {toks : List Tk} {a o : Nat} (h : PB W b A N c toks a o) (ho : o ≤ 12) (hf : 9 * (N - a) + 7 < f) :
    Calls Tryz.prog 35 #[.pointer (some ⟨b, 0, none⟩)] W (GP b A N c toks a o (RRl W.heap.size) W (ruleP (exprP f 1 o) (toks.drop a))) := by
  have HP := Lib.hid h
  have hx0 : Ext W (W.alloc (.cells #[.string ⟨#[]⟩, .int .i64 0, .string ⟨#[]⟩, .int .i64 0, .int .i64 0, .string ⟨#[]⟩, .slice none 0 0, .int .i64 0, .int .i64 0, .string ⟨#[]⟩, .slice none 0 0, .string ⟨#[]⟩, .string ⟨#[]⟩] 50)) := (Ext.refl W).alloc _
  have HX0 := Lib.hid hx0
  have HGX := Lib.hid (show RX (W.alloc (.cells #[.string ⟨#[]⟩, .int .i64 0, .string ⟨#[]⟩, .int .i64 0, .int .i64 0, .string ⟨#[]⟩, .slice none 0 0, .int .i64 0, .int .i64 0, .string ⟨#[]⟩, .slice none 0 0, .string ⟨#[]⟩, .string ⟨#[]⟩] 50)) W.heap.size rl0 from heap_alloc_new _ _)
  have HBW := Lib.hid h.lt
  have hnm := fieldNm
  obtain ⟨RES, hRES⟩ : ∃ R, R = ruleP (exprP f 1 o) (toks.drop a) := ⟨_, rfl⟩
  rw [← hRES]
  unfold ruleP at hRES
  have HM := Lib.hid (pmust_any (h.ext hx0) wRule ⟨#[114, 117, 108, 101]⟩ rfl (by decide))
  cases hM : mustP wRule (toks.drop a) with
  | bad r er =>
    rw [hM] at HM
    rw [hM, PR.bind_bad] at hRES
    subst hRES
    clear h hM hx0
    go_enter Tryz.func35, Tryz.ntmps35
    go_wp2_with (first | (go_at_call 74; refine (HM.out).mono ?_; rintro e w1 ⟨a1, o1, rfl, ha1, hr1, hp1, hm1⟩; have HR1 := Lib.hid hr1; clear hr1))
    exact ⟨rfl, a1, o1, rfl, ha1, HR1.out, hp1, (Mv.of_ext HX0.out).trans hm1⟩
  | ok u r =>
    rw [hM] at HM
    rw [hM, PR.bind_ok] at hRES
    have HRES := Lib.hid hRES
    clear h hM hx0 hRES
    go_enter Tryz.func35, Tryz.ntmps35
    go_upto_region 2 with (first | (go_at_call 74; refine (HM.out).mono ?_; rintro e w1 ⟨v1, a1, rfl, hv1, ha1, hr1, hp1, hm1⟩; subst hv1; have HR1 := Lib.hid hr1; have HP1 := Lib.hid hp1; clear hr1 hp1))
    have hr1 := HR1.out
    subst hr1
    clear HR1
    have HMV1 := Lib.hid ((Mv.of_ext HX0.out).trans hm1)
    have HGX1 := Lib.hid (HGX.out.mv hm1 (by have := HBW.out; omega))
    clear hm1
    have HN := Lib.hid (pname_any HP1.out)
    cases hN : nameP (toks.drop a1) with
    | bad r er =>
      rw [hN] at HN
      have hres := HRES.out
      rw [hN, PR.bind_bad] at hres
      clear HRES hN
      subst hres
      go_wp2_with (first | (go_at_call 75; refine (HN.out).mono ?_; rintro e w2 ⟨a2, o2, rfl, ha2, hr2, hp2, hm2⟩; have HR2 := Lib.hid hr2; clear hr2))
      exact ⟨rfl, a2, o2, rfl, by omega, HR2.out, hp2, HMV1.out.trans hm2⟩
    | ok nm r =>
      rw [hN] at HN
      have hres := HRES.out
      rw [hN, PR.bind_ok] at hres
      clear HRES hN
      have HRES := Lib.hid hres
      clear hres
      obtain ⟨NM, hNM⟩ : ∃ S, S = bs nm := ⟨_, rfl⟩
      have HNM := Lib.hid hNM
      go_upto_region 3 with (first | (go_at_call 75; refine (HN.out).mono ?_; rintro e w2 ⟨v2, a2, rfl, hv2, ha2, hr2, hp2, hm2⟩; rw [← hNM] at hv2; subst hv2; clear hNM; have HR2 := Lib.hid hr2; have HP2 := Lib.hid hp2; clear hr2 hp2))
      have hr2 := HR2.out
      subst hr2
      clear HR2
      obtain ⟨w3, hw3⟩ : ∃ w3, w3 = w2.alloc (.cells #[.string NM, .int .i64 0, .string ⟨#[]⟩, .int .i64 0, .int .i64 0, .string ⟨#[]⟩, .slice none 0 0, .int .i64 0, .int .i64 0, .string ⟨#[]⟩, .slice none 0 0, .string ⟨#[]⟩, .string ⟨#[]⟩] 50) := ⟨_, rfl⟩
      have hx3 : Ext w2 w3 := by rw [hw3]; exact (Ext.refl _).alloc _
      obtain ⟨d0, hd0⟩ : ∃ d : RlD, d = { rl0 with name := NM } := ⟨_, rfl⟩
      have hrx : RX w3 w2.heap.size d0 := by rw [hw3, hd0]; exact heap_alloc_new _ _
      rw [← hw3]
      have h1s : W.heap.size + 1 ≤ w1.heap.size := lt_of_block HGX1.out
      have HRS := Lib.hid (show RS W b A N c toks o a a2 w2.heap.size d0 trZero trZero w3 from ⟨HP2.out.ext hx3, hrx, (HGX1.out.mv hm2 (by have := HBW.out; omega)).mv (Mv.of_ext hx3 : Mv b _ _) (by have := HBW.out; omega), (HMV1.out.trans hm2).trans (Mv.of_ext hx3), by rw [hd0]; exact Rep.leaf _ _ 0 0 [], by rw [hd0]; exact Rep.leaf _ _ 0 0 [], Nat.le_trans h1s hm2.size, HBW.out, by omega⟩)
      have HD0 := Lib.hid (show d0.name = bs nm from by rw [hd0]; exact HNM.out)
      clear hw3 hx3 hrx hm2 hd0 HMV1 HGX1 HN HM HP1 HP2 h1s HNM
      generalize w2.heap.size = g3 at *
      have HC := Lib.hid (pmust_any HRS.out.pb wFrom ⟨#[102, 114, 111, 109]⟩ rfl (by decide))
      cases hC : mustP wFrom (toks.drop a2) with
      | bad r er =>
        rw [hC] at HC
        have hres := HRES.out
        rw [hC, PR.bind_bad] at hres
        clear hC HRES
        subst hres
        go_wp2_with (first | (go_at_call 74; refine (HC.out).mono ?_; rintro e w3 ⟨a3, o3, rfl, ha3, hr3, hp3, hm3⟩; have HR3 := Lib.hid hr3; clear hr3))
        exact ⟨rfl, a3, o3, rfl, by have := HRS.out.le; omega, HR3.out, hp3, (HRS.out.mv).trans hm3⟩
      | ok x3 r =>
        rw [hC] at HC
        have hres := HRES.out
        rw [hC, PR.bind_ok] at hres
        clear hC HRES
        have HRES := Lib.hid hres
        clear hres
        go_upto_region 4 with (first | (go_at_call 74; refine (HC.out).mono ?_; rintro e w3 ⟨v3, a3, rfl, hv3, ha3, hr3, hp3, hm3⟩; subst hv3; have HR3 := Lib.hid hr3; have HRS9 := Lib.hid (HRS.out.step hp3 hm3 ha3); clear hr3 hp3))
        have e9 := HR3.out
        subst e9
        clear HR3 HC
        clear HRS
        have HRS := HRS9
        clear HRS9 hm3 ha3
        have hmem := hd_mem HRS.out.pb
        by_cases hk : (hd (toks.drop a3)).kd = 3
        case neg =>
          have HC := Lib.hid (ptok_no HRS.out.pb 3 hk)
          have hres := HRES.out
          rw [show tokP 3 (toks.drop a3) = .bad (toks.drop a3) 20 from if_neg hk, PR.bind_bad] at hres
          clear HRES
          subst hres
          clear hk hmem
          go_wp2_with (first | (go_at_call 76; refine (HC.out).mono ?_; rintro e w10 ⟨rfl, hx10⟩))
          exact ⟨rfl, a3, o, rfl, HRS.out.le, rfl, HRS.out.pb.ext hx10, HRS.out.mv.trans (Mv.of_ext hx10)⟩
        obtain ⟨tk, htk⟩ : ∃ t, t = hd (toks.drop a3) := ⟨_, rfl⟩
        obtain ⟨FR, hFR⟩ : ∃ x, x = tk.nm := ⟨_, rfl⟩
        have HC := Lib.hid (ptok_yes HRS.out.pb 3 (by decide) tk htk.symm (by rw [htk]; exact hk))
        rw [← hFR] at HC
        have hres := HRES.out
        rw [show tokP 3 (toks.drop a3) = .ok tk (toks.drop (a3 + 1)) from by rw [← hmem.2.2, htk]; exact if_pos hk, PR.bind_ok] at hres
        simp only [← hFR] at hres
        clear HRES hFR htk hk hmem
        have HRES := Lib.hid hres
        clear hres
        obtain ⟨TX, hTX⟩ : ∃ S, S = bs tk.tx := ⟨_, rfl⟩
        rw [← hTX] at HC
        clear hTX
        go_upto_region 5 with (first | (go_at_call 76; refine (HC.out).mono ?_; rintro e w10 ⟨rfl, hp10, hm10⟩; have HRS9 := Lib.hid (HRS.out.step hp10 hm10 (Nat.le_succ _)); obtain ⟨k0, k1, k2, k3, k4, k5, k6, k7, k8, k9, k10, k11, k12⟩ := HRS9.out.rx.cs; obtain ⟨z0, z1, z2, z3, z4, z5, z6, z7, z8, z9, z10, z11, z12⟩ := HRS9.out.rx.zs; clear hp10 hm10))
        obtain ⟨w11, hw11⟩ : ∃ w, w = w10.setCell ⟨g3, 1, none⟩ (.int .i64 FR) := ⟨_, rfl⟩
        have hrs := HRS9.out.set1 HP.out FR
        rw [← hw11] at hrs ⊢
        clear HRS HC HRS9 hw11 k0 k1 k2 k3 k4 k5 k6 k7 k8 k9 k10 k11 k12 z0 z1 z2 z3 z4 z5 z6 z7 z8 z9 z10 z11 z12
        obtain ⟨a4, ha4⟩ : ∃ x, x = a3 + 1 := ⟨_, rfl⟩
        rw [← ha4] at hrs HRES
        clear ha4
        have HRS := Lib.hid hrs
        clear hrs
        have HC := Lib.hid (pmust_any HRS.out.pb wBrace ⟨#[123]⟩ rfl (by decide))
        cases hC : mustP wBrace (toks.drop a4) with
        | bad r er =>
          rw [hC] at HC
          have hres := HRES.out
          rw [hC, PR.bind_bad] at hres
          clear hC HRES
          subst hres
          go_wp2_with (first | (go_at_call 74; refine (HC.out).mono ?_; rintro e w5 ⟨a5, o5, rfl, ha5, hr5, hp5, hm5⟩; have HR5 := Lib.hid hr5; clear hr5))
          exact ⟨rfl, a5, o5, rfl, by have := HRS.out.le; omega, HR5.out, hp5, (HRS.out.mv).trans hm5⟩
        | ok x5 r =>
          rw [hC] at HC
          have hres := HRES.out
          rw [hC, PR.bind_ok] at hres
          clear hC HRES
          have HRES := Lib.hid hres
          clear hres
          go_upto_region 6 with (first | (go_at_call 74; refine (HC.out).mono ?_; rintro e w5 ⟨v5, a5, rfl, hv5, ha5, hr5, hp5, hm5⟩; subst hv5; have HR5 := Lib.hid hr5; have HRS9 := Lib.hid (HRS.out.step hp5 hm5 ha5); clear hr5 hp5))
          have e9 := HR5.out
          subst e9
          clear HR5 HC
          clear HRS
          have HRS := HRS9
          clear HRS9 hm5 ha5
          obtain ⟨T6, hT⟩ : ∃ T, T = bs (hd (toks.drop a5)).tx := ⟨_, rfl⟩
          have HNX := Lib.hid (pnext_any HRS.out.pb T6 hT)
          by_cases hx : (hd (toks.drop a5)).tx = wOn
          case neg =>
            have HF := Lib.hid (fun X (hX : Ext _ X) => pfail_any (HRS.out.pb.ext hX) 20)
            have hb : (T6.toList == [111, 110]) = false := by rw [hT, bs_list]; exact beq_eq_false_iff_ne.2 hx
            have hres := HRES.out
            rw [show mustP wOn (toks.drop a5) = .bad (toks.drop a5) 20 from if_neg hx, PR.bind_bad] at hres
            clear HRES
            subst hres
            clear hx hT
            go_wp2_with (first | (go_at_call 77; refine (HNX.out).mono ?_; rintro e w30 ⟨rfl, hx30⟩) | (go_at_call 73; refine (HF.out _ hx30).mono ?_; rintro e w31 ⟨rfl, hx31⟩))
            exact ⟨rfl, a5, o, rfl, HRS.out.le, rfl, HRS.out.pb.ext (hx30.trans hx31), HRS.out.mv.trans (Mv.of_ext (hx30.trans hx31))⟩
          have hb6 : (T6.toList == [111, 110]) = true := by rw [hT, bs_list, hx]; rfl
          have hres := HRES.out
          rw [part_on hx [] nameP] at hres
          clear HRES hx hT
          have HRES := Lib.hid hres
          clear hres
          have HC := Lib.hid (fun X (hX : Ext _ X) => ppartS_any (HRS.out.pb.ext hX) wOn ⟨#[111, 110]⟩ rfl (by decide))
          cases hC : partP wOn [] nameP (toks.drop a5) with
          | bad r er =>
            rw [hC] at HC
            have hres := HRES.out
            rw [hC, PR.bind_bad] at hres
            clear hC HRES
            subst hres
            go_wp2_with (first | (go_at_call 77; refine (HNX.out).mono ?_; rintro e w6a ⟨rfl, hx6⟩) | (go_at_call 78; refine (HC.out _ hx6).mono ?_; rintro e w6 ⟨a6, o6, rfl, ha6, hr6, hp6, hm6⟩; have HR6 := Lib.hid hr6; clear hr6))
            exact ⟨rfl, a6, o6, rfl, by have := HRS.out.le; omega, HR6.out, hp6, (HRS.out.mv.trans (Mv.of_ext hx6)).trans hm6⟩
          | ok x6 r =>
            rw [hC] at HC
            have hres := HRES.out
            rw [hC, PR.bind_ok] at hres
            clear hC HRES
            have HRES := Lib.hid hres
            clear hres
            obtain ⟨S6, hS6⟩ : ∃ S, S = bs x6 := ⟨_, rfl⟩
            have HS6 := Lib.hid hS6
            go_upto_region 9 with (first | (go_at_call 77; refine (HNX.out).mono ?_; rintro e w6a ⟨rfl, hx6⟩) | (go_at_call 78; refine (HC.out _ hx6).mono ?_; rintro e w6 ⟨v6, a6, rfl, hv6, ha6, hr6, hp6, hm6⟩; rw [← hS6] at hv6; subst hv6; clear hS6; have HR6 := Lib.hid hr6; have HRS9 := Lib.hid ((HRS.out.ext hx6).step hp6 hm6 ha6); obtain ⟨k0, k1, k2, k3, k4, k5, k6, k7, k8, k9, k10, k11, k12⟩ := HRS9.out.rx.cs; obtain ⟨z0, z1, z2, z3, z4, z5, z6, z7, z8, z9, z10, z11, z12⟩ := HRS9.out.rx.zs; clear hr6 hp6))
            have e9 := HR6.out
            subst e9
            clear HR6 HC
            clear hx6 HNX
            obtain ⟨wS, hwS⟩ : ∃ w, w = w6.setCell ⟨g3, 2, none⟩ (.string S6) := ⟨_, rfl⟩
            have hrs := HRS9.out.set2 HP.out S6
            rw [← hwS] at hrs ⊢
            clear HRS HRS9 hwS hm6 ha6 k0 k1 k2 k3 k4 k5 k6 k7 k8 k9 k10 k11 k12 z0 z1 z2 z3 z4 z5 z6 z7 z8 z9 z10 z11 z12
            have HRS := Lib.hid hrs
            clear hrs
            have HPI := Lib.hid (part_if (E := exprP f 1 o) (fun r t r' h => expr_kind f 1 o r t r' h) trZero trTrue rfl wIf (toks.drop a6))
            have HC := Lib.hid (ppartN_any f HRS.out.pb ho (by have := HRS.out.le; omega) wIf ⟨#[105, 102]⟩ rfl (by decide))
            cases hC : partP wIf trZero (exprP f 1 o) (toks.drop a6) with
            | bad r er =>
              rw [hC] at HC
              have hres := HRES.out
              rw [HPI.out.2 _ _ hC, PR.bind_bad] at hres
              clear hC HRES
              subst hres
              go_wp2_with (first | (go_at_call 79; refine (HC.out).mono ?_; rintro e w9 ⟨a9, o9, rfl, ha9, hr9, hp9, hm9⟩; have HR9 := Lib.hid hr9; clear hr9))
              exact ⟨rfl, a9, o9, rfl, by have := HRS.out.le; omega, HR9.out, hp9, (HRS.out.mv).trans hm9⟩
            | ok x9 r =>
              rw [hC] at HC
              have hres := HRES.out
              rw [HPI.out.1 _ _ hC, PR.bind_ok] at hres
              clear hC HRES
              have HRES := Lib.hid hres
              clear hres
              go_upto_region 10 with (first | (go_at_call 79; refine (HC.out).mono ?_; rintro e w9 ⟨v9, a9, rfl, hv9, ha9, hr9, hp9, hm9⟩; obtain ⟨d9, rfl, hrep9⟩ := hv9; have HREP9 := Lib.hid hrep9; clear hrep9; have HR9 := Lib.hid hr9; have HRS9 := Lib.hid (HRS.out.step hp9 hm9 ha9); obtain ⟨k0, k1, k2, k3, k4, k5, k6, k7, k8, k9, k10, k11, k12⟩ := HRS9.out.rx.cs; obtain ⟨z0, z1, z2, z3, z4, z5, z6, z7, z8, z9, z10, z11, z12⟩ := HRS9.out.rx.zs; clear hr9 hp9))
              have e9 := HR9.out
              subst e9
              clear HR9 HC
              obtain ⟨wS, hwS⟩ : ∃ w, w = ((((w9.setCell ⟨g3, 3, none⟩ (.int .i64 d9.k)).setCell ⟨g3, 4, none⟩ (.int .i64 d9.n)).setCell ⟨g3, 5, none⟩ (.string d9.s)).setCell ⟨g3, 6, none⟩ (.slice d9.A d9.m d9.c)) := ⟨_, rfl⟩
              have hgb := HRS.out.gb
              have hg3 := lt_of_block HRS.out.rx
              have hrs := HRS9.out.setI HP.out d9 x9 (HREP9.out.mono (fun k hk _ => by change _ ≤ k at hk; exact ⟨by omega, by omega⟩))
              rw [← hwS] at hrs ⊢
              have HK9 := Lib.hid (rep_kind HREP9.out)
              clear HPI HRS HRS9 hwS hm9 ha9 hgb hg3 HREP9 k0 k1 k2 k3 k4 k5 k6 k7 k8 k9 k10 k11 k12 z0 z1 z2 z3 z4 z5 z6 z7 z8 z9 z10 z11 z12
              have HRS := Lib.hid hrs
              clear hrs
              obtain ⟨XI, hXI⟩ : ∃ t, t = if trK x9 = 0 then trTrue else x9 := ⟨_, rfl⟩
              have hres := HRES.out
              rw [← hXI] at hres
              clear HRES
              have HRES := Lib.hid hres
              have HXI := Lib.hid hXI
              clear hres hXI
              obtain ⟨kk0, kk1, kk2, kk3, kk4, kk5, kk6, kk7, kk8, kk9, kk10, kk11, kk12⟩ := HRS.out.rx.cs
              obtain ⟨zz0, zz1, zz2, zz3, zz4, zz5, zz6, zz7, zz8, zz9, zz10, zz11, zz12⟩ := HRS.out.rx.zs
              go_upto_if 35 with (fail)
              go_cut [35] (fun s35 wx => ∃ dI : Nd, RS W b A N c toks o a a9 g3 { ({ ({ d0 with from_ := FR } : RlD) with on_ := S6 } : RlD) with if_ := dI } XI trZero wx)
              case first =>
                by_cases hk0 : trK x9 = 0
                · have hb0 : (d9.k == 0) = true := by rw [HK9.out]; simpa using hk0
                  have HK0 := Lib.hid hk0
                  clear hk0
                  go_wp2
                  go_meet
                  case rel =>
                    refine ⟨⟨2, 1, ⟨#[]⟩, none, 0, 0⟩, ?_⟩
                    have hrs := HRS.out.setI HP.out ⟨2, 1, ⟨#[]⟩, none, 0, 0⟩ trTrue (Rep.leaf _ _ 2 1 [])
                    rw [HXI.out, if_pos HK0.out]
                    exact hrs
                · have hb0 : (d9.k == 0) = false := by rw [HK9.out]; simpa using hk0
                  have HK0 := Lib.hid hk0
                  clear hk0
                  go_wp2
                  go_meet
                  case rel =>
                    refine ⟨d9, ?_⟩
                    rw [HXI.out, if_neg HK0.out]
                    exact HRS.out
              case rest =>
                obtain ⟨dI, hrs⟩ := hcut
                clear HRS HXI HK9 kk0 kk1 kk2 kk3 kk4 kk5 kk6 kk7 kk8 kk9 kk10 kk11 kk12 zz0 zz1 zz2 zz3 zz4 zz5 zz6 zz7 zz8 zz9 zz10 zz11 zz12
                have HRS := Lib.hid hrs
                clear hrs
                obtain ⟨T12, hT⟩ : ∃ T, T = bs (hd (toks.drop a9)).tx := ⟨_, rfl⟩
                have HNX := Lib.hid (pnext_any HRS.out.pb T12 hT)
                by_cases hx : (hd (toks.drop a9)).tx = wDue
                case neg =>
                  have HF := Lib.hid (fun X (hX : Ext _ X) => pfail_any (HRS.out.pb.ext hX) 20)
                  have hb : (T12.toList == [100, 117, 101]) = false := by rw [hT, bs_list]; exact beq_eq_false_iff_ne.2 hx
                  have hres := HRES.out
                  rw [show mustP wDue (toks.drop a9) = .bad (toks.drop a9) 20 from if_neg hx, PR.bind_bad] at hres
                  clear HRES
                  subst hres
                  clear hx hT
                  go_wp2_with (first | (go_at_call 77; refine (HNX.out).mono ?_; rintro e w30 ⟨rfl, hx30⟩) | (go_at_call 73; refine (HF.out _ hx30).mono ?_; rintro e w31 ⟨rfl, hx31⟩))
                  exact ⟨rfl, a9, o, rfl, HRS.out.le, rfl, HRS.out.pb.ext (hx30.trans hx31), HRS.out.mv.trans (Mv.of_ext (hx30.trans hx31))⟩
                have hb12 : (T12.toList == [100, 117, 101]) = true := by rw [hT, bs_list, hx]; rfl
                have hres := HRES.out
                rw [part_on hx trZero (exprP f 1 o)] at hres
                clear HRES hx hT
                have HRES := Lib.hid hres
                clear hres
                have HC := Lib.hid (fun X (hX : Ext _ X) => ppartN_any f (HRS.out.pb.ext hX) ho (by have := HRS.out.le; omega) wDue ⟨#[100, 117, 101]⟩ rfl (by decide))
                cases hC : partP wDue trZero (exprP f 1 o) (toks.drop a9) with
                | bad r er =>
                  rw [hC] at HC
                  have hres := HRES.out
                  rw [hC, PR.bind_bad] at hres
                  clear hC HRES
                  subst hres
                  go_wp2_with (first | (go_at_call 77; refine (HNX.out).mono ?_; rintro e w12a ⟨rfl, hx12⟩) | (go_at_call 79; refine (HC.out _ hx12).mono ?_; rintro e w12 ⟨a12, o12, rfl, ha12, hr12, hp12, hm12⟩; have HR12 := Lib.hid hr12; clear hr12))
                  exact ⟨rfl, a12, o12, rfl, by have := HRS.out.le; omega, HR12.out, hp12, (HRS.out.mv.trans (Mv.of_ext hx12)).trans hm12⟩
                | ok x12 r =>
                  rw [hC] at HC
                  have hres := HRES.out
                  rw [hC, PR.bind_ok] at hres
                  clear hC HRES
                  have HRES := Lib.hid hres
                  clear hres
                  go_upto_region 15 with (first | (go_at_call 77; refine (HNX.out).mono ?_; rintro e w12a ⟨rfl, hx12⟩) | (go_at_call 79; refine (HC.out _ hx12).mono ?_; rintro e w12 ⟨v12, a12, rfl, hv12, ha12, hr12, hp12, hm12⟩; obtain ⟨d12, rfl, hrep12⟩ := hv12; have HREP12 := Lib.hid hrep12; clear hrep12; have HR12 := Lib.hid hr12; have HRS9 := Lib.hid ((HRS.out.ext hx12).step hp12 hm12 ha12); obtain ⟨k0, k1, k2, k3, k4, k5, k6, k7, k8, k9, k10, k11, k12⟩ := HRS9.out.rx.cs; obtain ⟨z0, z1, z2, z3, z4, z5, z6, z7, z8, z9, z10, z11, z12⟩ := HRS9.out.rx.zs; clear hr12 hp12))
                  have e9 := HR12.out
                  subst e9
                  clear HR12 HC
                  have hxs := hx12.lt
                  obtain ⟨wS, hwS⟩ : ∃ w, w = ((((w12.setCell ⟨g3, 7, none⟩ (.int .i64 d12.k)).setCell ⟨g3, 8, none⟩ (.int .i64 d12.n)).setCell ⟨g3, 9, none⟩ (.string d12.s)).setCell ⟨g3, 10, none⟩ (.slice d12.A d12.m d12.c)) := ⟨_, rfl⟩
                  have hgb := HRS.out.gb
                  have hg3 := lt_of_block HRS.out.rx
                  have hrs := HRS9.out.setD HP.out d12 x12 (HREP12.out.mono (fun k hk _ => by change _ ≤ k at hk; exact ⟨by omega, by omega⟩))
                  rw [← hwS] at hrs ⊢
                  have HK12 := Lib.hid (rep_kind HREP12.out)
                  clear hx12 hxs HNX HRS HRS9 hwS hm12 ha12 hgb hg3 HREP12 k0 k1 k2 k3 k4 k5 k6 k7 k8 k9 k10 k11 k12 z0 z1 z2 z3 z4 z5 z6 z7 z8 z9 z10 z11 z12
                  have HRS := Lib.hid hrs
                  clear hrs
                  have HC := Lib.hid (ppartS_any HRS.out.pb wUnless ⟨#[117, 110, 108, 101, 115, 115]⟩ rfl (by decide))
                  cases hC : partP wUnless [] nameP (toks.drop a12) with
                  | bad r er =>
                    rw [hC] at HC
                    have hres := HRES.out
                    rw [hC, PR.bind_bad] at hres
                    clear hC HRES
                    subst hres
                    go_wp2_with (first | (go_at_call 78; refine (HC.out).mono ?_; rintro e w15 ⟨a15, o15, rfl, ha15, hr15, hp15, hm15⟩; have HR15 := Lib.hid hr15; clear hr15))
                    exact ⟨rfl, a15, o15, rfl, by have := HRS.out.le; omega, HR15.out, hp15, (HRS.out.mv).trans hm15⟩
                  | ok x15 r =>
                    rw [hC] at HC
                    have hres := HRES.out
                    rw [hC, PR.bind_ok] at hres
                    clear hC HRES
                    have HRES := Lib.hid hres
                    clear hres
                    obtain ⟨S15, hS15⟩ : ∃ S, S = bs x15 := ⟨_, rfl⟩
                    have HS15 := Lib.hid hS15
                    go_upto_region 16 with (first | (go_at_call 78; refine (HC.out).mono ?_; rintro e w15 ⟨v15, a15, rfl, hv15, ha15, hr15, hp15, hm15⟩; rw [← hS15] at hv15; subst hv15; clear hS15; have HR15 := Lib.hid hr15; have HRS9 := Lib.hid (HRS.out.step hp15 hm15 ha15); obtain ⟨k0, k1, k2, k3, k4, k5, k6, k7, k8, k9, k10, k11, k12⟩ := HRS9.out.rx.cs; obtain ⟨z0, z1, z2, z3, z4, z5, z6, z7, z8, z9, z10, z11, z12⟩ := HRS9.out.rx.zs; clear hr15 hp15))
                    have e9 := HR15.out
                    subst e9
                    clear HR15 HC
                    obtain ⟨wS, hwS⟩ : ∃ w, w = w15.setCell ⟨g3, 11, none⟩ (.string S15) := ⟨_, rfl⟩
                    have hrs := HRS9.out.set11 HP.out S15
                    rw [← hwS] at hrs ⊢
                    clear HRS HRS9 hwS hm15 ha15 k0 k1 k2 k3 k4 k5 k6 k7 k8 k9 k10 k11 k12 z0 z1 z2 z3 z4 z5 z6 z7 z8 z9 z10 z11 z12
                    have HRS := Lib.hid hrs
                    clear hrs
                    have HC := Lib.hid (ppartS_any HRS.out.pb wElse ⟨#[101, 108, 115, 101]⟩ rfl (by decide))
                    cases hC : partP wElse [] nameP (toks.drop a15) with
                    | bad r er =>
                      rw [hC] at HC
                      have hres := HRES.out
                      rw [hC, PR.bind_bad] at hres
                      clear hC HRES
                      subst hres
                      go_wp2_with (first | (go_at_call 78; refine (HC.out).mono ?_; rintro e w16 ⟨a16, o16, rfl, ha16, hr16, hp16, hm16⟩; have HR16 := Lib.hid hr16; clear hr16))
                      exact ⟨rfl, a16, o16, rfl, by have := HRS.out.le; omega, HR16.out, hp16, (HRS.out.mv).trans hm16⟩
                    | ok x16 r =>
                      rw [hC] at HC
                      have hres := HRES.out
                      rw [hC, PR.bind_ok] at hres
                      clear hC HRES
                      have HRES := Lib.hid hres
                      clear hres
                      obtain ⟨S16, hS16⟩ : ∃ S, S = bs x16 := ⟨_, rfl⟩
                      have HS16 := Lib.hid hS16
                      go_upto_region 17 with (first | (go_at_call 78; refine (HC.out).mono ?_; rintro e w16 ⟨v16, a16, rfl, hv16, ha16, hr16, hp16, hm16⟩; rw [← hS16] at hv16; subst hv16; clear hS16; have HR16 := Lib.hid hr16; have HRS9 := Lib.hid (HRS.out.step hp16 hm16 ha16); obtain ⟨k0, k1, k2, k3, k4, k5, k6, k7, k8, k9, k10, k11, k12⟩ := HRS9.out.rx.cs; obtain ⟨z0, z1, z2, z3, z4, z5, z6, z7, z8, z9, z10, z11, z12⟩ := HRS9.out.rx.zs; clear hr16 hp16))
                      have e9 := HR16.out
                      subst e9
                      clear HR16 HC
                      obtain ⟨wS, hwS⟩ : ∃ w, w = w16.setCell ⟨g3, 12, none⟩ (.string S16) := ⟨_, rfl⟩
                      have hrs := HRS9.out.set12 HP.out S16
                      rw [← hwS] at hrs ⊢
                      clear HRS HRS9 hwS hm16 ha16 k0 k1 k2 k3 k4 k5 k6 k7 k8 k9 k10 k11 k12 z0 z1 z2 z3 z4 z5 z6 z7 z8 z9 z10 z11 z12
                      have HRS := Lib.hid hrs
                      clear hrs
                      have HC := Lib.hid (pmust_any HRS.out.pb wBraceE ⟨#[125]⟩ rfl (by decide))
                      cases hC : mustP wBraceE (toks.drop a16) with
                      | bad r er =>
                        rw [hC] at HC
                        have hres := HRES.out
                        rw [hC, PR.bind_bad] at hres
                        clear hC HRES
                        subst hres
                        go_wp2_with (first | (go_at_call 74; refine (HC.out).mono ?_; rintro e w17 ⟨a17, o17, rfl, ha17, hr17, hp17, hm17⟩; have HR17 := Lib.hid hr17; clear hr17))
                        exact ⟨rfl, a17, o17, rfl, by have := HRS.out.le; omega, HR17.out, hp17, (HRS.out.mv).trans hm17⟩
                      | ok x17 r =>
                        rw [hC] at HC
                        have hres := HRES.out
                        rw [hC, PR.bind_ok] at hres
                        clear hC HRES
                        have HRES := Lib.hid hres
                        clear hres
                        go_upto_region 18 with (first | (go_at_call 74; refine (HC.out).mono ?_; rintro e w17 ⟨v17, a17, rfl, hv17, ha17, hr17, hp17, hm17⟩; subst hv17; have HR17 := Lib.hid hr17; have HRS9 := Lib.hid (HRS.out.step hp17 hm17 ha17); clear hr17 hp17))
                        have e9 := HR17.out
                        subst e9
                        clear HR17 HC
                        clear HRS
                        have HRS := HRS9
                        clear HRS9 hm17 ha17
                        obtain ⟨dF, hdF⟩ : ∃ d : RlD, d = { ({ ({ ({ ({ ({ d0 with from_ := FR } : RlD) with on_ := S6 } : RlD) with if_ := dI } : RlD) with due := d12 } : RlD) with unless_ := S15 } : RlD) with else_ := S16 } := ⟨_, rfl⟩
                        have hrs := HRS.out
                        rw [← hdF] at hrs
                        clear HRS
                        have HRS := Lib.hid hrs
                        clear hrs
                        have hres := HRES.out
                        clear HRES
                        subst hres
                        have HREP := Lib.hid (show RepR (fin13 w17 W.heap.size dF) (fun k => W.heap.size ≤ k) dF ⟨nm, FR, x6, XI, x12, x15, x16⟩ from
                          ⟨by rw [hdF]; exact HD0.out, by rw [hdF], by rw [hdF]; exact HS6.out, (HRS.out.ti.keep (by rw [fin13_size]; exact Nat.le_refl _) (fun k hk _ => fin13_other _ _ _ _ (by omega))).mono (fun k hk _ => by omega), (HRS.out.td.keep (by rw [fin13_size]; exact Nat.le_refl _) (fun k hk _ => fin13_other _ _ _ _ (by omega))).mono (fun k hk _ => by omega), by rw [hdF]; exact HS15.out, by rw [hdF]; exact HS16.out⟩)
                        clear hdF
                        obtain ⟨k0, k1, k2, k3, k4, k5, k6, k7, k8, k9, k10, k11, k12⟩ := HRS.out.rx.cs
                        obtain ⟨j0, j1, j2, j3, j4, j5, j6, j7, j8, j9, j10, j11, j12⟩ := HRS.out.gx.cs
                        obtain ⟨z0, z1, z2, z3, z4, z5, z6, z7, z8, z9, z10, z11, z12⟩ := HRS.out.gx.zs
                        go_wp2
                        refine bodyPost_ret (v := dF.val) (by simp [results, Tryz.results35, go_sem, RlD.val, *]) rfl ?_
                        exact ⟨_, a17, rfl, ⟨dF, rfl, HREP.out⟩, HRS.out.le, rfl, HP.out.fin13 HRS.out.pb dF, HRS.out.mv.fin13 dF⟩
end Go.Proofs.YtnpenepdechkjaaGreatDoor

/- The production's reader of rules. -/
namespace Go.Proofs.YtnpenepdechkjaaGreatDoor
open Go Go.RowKit

def RuRel (W : World) (b : Nat) (A : Option Addr) (N c : Nat) (toks : List Tk) (a : Nat) (E : List Tk → PR Tr) (RES : PR (List Rl)) (s3 : Value) (X : World) : Prop :=
  ∃ (a' : Nat) (A3 : Option Addr) (c3 n : Nat) (ds : List RlD) (acc : List Rl), s3 = .slice A3 n c3 ∧ ds.length = n ∧ acc.length = n ∧ n ≤ a' ∧ a ≤ a' ∧ PB X b A N c toks a' 0 ∧ KRr X W.heap.size (.slice A3 n c3) ds acc ∧ RP E acc (toks.drop a') = RES ∧ Mv b W X
def RWl (base : Nat) (W : World) (x : List Rl) (v : Value) : Prop := ∃ A c, v = .slice A x.length c ∧ RW W (fun k => base ≤ k) A x.length x
theorem rule_more {E : List Tk → PR Tr} (hE : ∀ m, Loc m E) {toks : List Tk} {a a' : Nat} {x : Rl} (ha : a' < toks.length) (h : ruleP E (toks.drop a) = .ok x (toks.drop a')) : a < a' := by
  obtain ⟨pre, h1, h2, _⟩ := locS_rule (m := (toks.drop a).length) hE _ _ _ (Nat.le_refl _) h
  have h3 := congrArg List.length h1
  have h4 := List.length_pos_iff.2 h2
  simp only [List.length_append, List.length_drop] at h3
  omega
set_option maxHeartbeats 2000000 in
set_option maxRecDepth 100000 in
theorem prules_any (f : Nat) {W : World} {b : Nat} {A : Option Addr} {N c : Nat} {toks : List Tk} {a : Nat} (h : PB W b A N c toks a 0) (hf : 9 * (N - a) + 7 < f) :
    Calls Tryz.prog 34 #[.pointer (some ⟨b, 0, none⟩)] W (GP b A N c toks a 0 (RWl W.heap.size) W (RP (exprP f 1 0) [] (toks.drop a))) := by
  have hE : ∀ m, Loc m (exprP f 1 0) := fun m => loc_expr f 1 0 m (by omega)
  have HP := Lib.hid h
  obtain ⟨RES, hRES⟩ : ∃ R, R = RP (exprP f 1 0) [] (toks.drop a) := ⟨_, rfl⟩
  rw [← hRES]
  have HST := Lib.hid (show RuRel W b A N c toks a (exprP f 1 0) RES (.slice none 0 0) W from ⟨a, none, 0, 0, [], [], rfl, rfl, rfl, by omega, by omega, h, KRr.nil W _, hRES.symm, Mv.refl b W⟩)
  clear h hRES
  go_enter Tryz.func34, Tryz.ntmps34
  go_wp2_with fail
  go_loopw [3] (fun s3 X => RuRel W b A N c toks a (exprP f 1 0) RES s3 X) (fun _ X => atM N b X)
  case atStart => exact HST.out
  case round =>
    clear HST
    obtain ⟨a', A3, c3, n, ds, acc, rfl, hds, hacc, hna, haa, hpb, hkr, hres, hmv⟩ := hrel
    have HPB := Lib.hid hpb
    have HKR := Lib.hid hkr
    have HMV := Lib.hid hmv
    have HDS := Lib.hid hds
    have HPBM := Lib.hid hpb.meas
    have HAC := Lib.hid hacc
    have hmt := hd_mem hpb
    obtain ⟨g, off, t, hA, ht0, htm, ht, _, k0, _, _, _⟩ := hpb.tk
    have c0 := hpb.c0
    have c1 := hpb.c1
    have haI : (a' : Int) < (N : Int) := by have := hpb.at_; omega
    rw [RP_eq hE] at hres
    rw [hA] at c0
    by_cases hk : t.kd = 0
    · rw [ht, if_pos hk] at hres
      subst hres
      have hkb : (t.kd != 0) = false := by simp [hk]
      clear hpb hkr hmv hds hmt ht0 htm ht hk hA
      have HNA := Lib.hid hacc
      clear hacc
      go_upto_region 2 with (fail)
      go_quiet (fail)
      go_wp2
      go_ret
      obtain ⟨A4, c4, e4, hrow⟩ := HKR.out.row
      exact ⟨.slice A3 n c3, a', rfl, ⟨A4, c4, e4, hrow.ext ((Ext.refl _).drewN _)⟩, haa, rfl, HPB.out.ext ((Ext.refl _).drewN _), HMV.out.trans (Mv.of_ext ((Ext.refl _).drewN _))⟩
    · rw [ht, if_neg hk] at hres
      have hkb : (t.kd != 0) = true := by simpa using hk
      have HC := Lib.hid (fun X (hX : Ext wr X) => prule_any f (hpb.ext hX) (by omega) (by omega))
      have HNB := Lib.hid (show N ≤ 100000 from hpb.nb)
      have HAT := Lib.hid hpb.at_
      have hbs : b < W.heap.size := HP.out.lt
      have hws := hmv.size
      clear hpb hkr hmv hmt ht0 htm ht hk hA hds hacc
      cases hC : ruleP (exprP f 1 0) (toks.drop a') with
      | bad r er =>
        rw [hC] at HC
        rw [hC, PR.bind_bad] at hres
        subst hres
        clear hC
        go_upto_region 2 with (fail)
        go_quiet (fail)
        go_wp2_with (first | (go_at_call 35; refine (HC.out _ ((Ext.refl _).drewN _)).mono ?_; rintro e w9 ⟨a9, o9, rfl, ha9, hr9, hp9, hm9⟩; have HR9 := Lib.hid hr9; clear hr9))
        exact ⟨rfl, a9, o9, rfl, by omega, HR9.out, hp9, (HMV.out.trans (Mv.of_ext ((Ext.refl _).drewN _))).trans hm9⟩
      | ok x r =>
        rw [hC] at HC
        have HRR := Lib.hid hC
        rw [hC, PR.bind_ok] at hres
        have HRES := Lib.hid hres
        clear hC hres
        go_upto_region 2 with (fail)
        go_quiet (fail)
        go_upto_region 3 with (fail)
        have hxn := (Ext.refl wr).drewN nq
        have HC9 := Lib.hid (HC.out _ hxn)
        have HKQ := Lib.hid (HKR.out.mv (Mv.of_ext hxn : Mv b _ _) hbs)
        have HMQ := Lib.hid (HMV.out.trans (Mv.of_ext hxn))
        have hwq : W.heap.size ≤ (wr.drewN nq).heap.size := HMQ.out.size
        clear HC hxn HKR HMV HPB c0 c1 hws
        generalize wr.drewN nq = wq at *
        have hds5 : ds.length ≤ 100000 := by have := HDS.out; have := HNB.out; have := HAT.out; omega
        go_wp2_with (first
          | (go_at_call 35; refine (HC9.out).mono ?_; rintro e w9 ⟨v9, a9, rfl, ⟨d, hv9, hrep⟩, ha9, hr9, hp9, hm9⟩; unfold RlD.val at hv9; subst hv9; obtain ⟨A7, c7, w7, hrun, hkr7, hbel, hkeep, hsz7, hown7⟩ := KRr.append (HKQ.out.mv hm9 hbs) (W := wq) (fun k hk => (HKQ.out.lt k hk).2) d x hrep hwq hm9.size hds5 w9.heap.size rfl; rw [HDS.out] at hrun hkr7 hown7; have HRUN := Lib.hid hrun; have HKR7 := Lib.hid hkr7; have HKEEP := Lib.hid hkeep; have HBEL := Lib.hid hbel; have HR9 := Lib.hid hr9; have HP9 := Lib.hid hp9; have HSZ7 := Lib.hid hsz7; have HOWN7 := Lib.hid hown7; have HM9 := Lib.hid hm9; clear hrep hrun hkr7 hkeep hbel hr9 hp9 hsz7 hown7 hm9)
          | (at_builtin; refine wpList_append_run (s := .tmp 16) (x := .tmp 19) HRUN.out rfl rfl rfl rfl rfl ?_))
        have e9 := HR9.out
        subst e9
        have hlt := rule_more hE (by rw [← HP9.out.len]; exact HP9.out.at_) HRR.out
        have hmW := HMQ.out.trans HM9.out
        have hown : ∀ k9, (Value.slice A3 n c3).ownBlock = some k9 → W.heap.size ≤ k9 := fun k9 e => (HKQ.out.lt k9 e).1
        have hm7 := hmW.grow HP.out.lt (Nat.le_refl _) HBEL.out HKEEP.out hown HSZ7.out
        have hp7 : PB w7 b A N c toks a9 0 := HP9.out.keep W.heap.size HP.out.lt HP.out.lts (fun k9 h9 => HKEEP.out k9 (Nat.lt_of_lt_of_le h9 hmW.size) (fun e => by have := hown k9 e; omega))
        refine ⟨⟨a9, A7, c7, n + 1, ds ++ [d], acc ++ [x], rfl, by simp [HDS.out], by simp [HAC.out], by omega, by omega, hp7, HKR7.out, HRES.out, hm7⟩, ?_⟩
        rw [hp7.meas, HPBM.out]
        have := HAT.out
        omega
end Go.Proofs.YtnpenepdechkjaaGreatDoor

/- The deferred closures of parse. -/
namespace Go.Proofs.YtnpenepdechkjaaGreatDoor
open Go Go.RowKit

/-- What a closure of parse leaves: three variables turned, all else as it was. -/
structure Tu (g4 g5 g6 : Nat) (W W' : World) : Prop where
  size : W.heap.size ≤ W'.heap.size
  keep : ∀ k, k ≠ g4 → k ≠ g5 → k ≠ g6 → k < W.heap.size → W'.heap[k]? = W.heap[k]?
  ext : ∀ w0, w0.heap.size ≤ g4 → w0.heap.size ≤ g5 → w0.heap.size ≤ g6 → Ext w0 W → Ext w0 W'
theorem Tu.of_ext {g4 g5 g6 : Nat} {W W' : World} (h : Ext W W') : Tu g4 g5 g6 W W' := ⟨h.lt, fun k _ _ _ hk => h.block k hk, fun _ _ _ _ hx => hx.trans h⟩
theorem Tu.trans {g4 g5 g6 : Nat} {W W' W'' : World} (h : Tu g4 g5 g6 W W') (k : Tu g4 g5 g6 W' W'') : Tu g4 g5 g6 W W'' :=
  ⟨Nat.le_trans h.size k.size, fun j h4 h5 h6 hl => (k.keep j h4 h5 h6 (Nat.lt_of_lt_of_le hl h.size)).trans (h.keep j h4 h5 h6 hl), fun w0 a b c hx => k.ext w0 a b c (h.ext w0 a b c hx)⟩
theorem Tu.set {g4 g5 g6 : Nat} {W : World} {g i : Nat} (v : Value) (h : g = g4 ∨ g = g5 ∨ g = g6) : Tu g4 g5 g6 W (W.setCell ⟨g, i, none⟩ v) :=
  ⟨by simp, fun k h4 h5 h6 _ => heap_setCell_other W ⟨g, i, none⟩ k v (by simp only; omega), fun w0 a b c hx => hx.setCell (p := ⟨g, i, none⟩) (by simp only; omega) v⟩
theorem asY (v : Value) (w : World) : (Instr.typeAssert (.iface 96 v) 20 96 true).run Tryz.prog w = .ok (.tuple #[v, .bool true]) w := by
  simp [Instr.typeAssert, run_underlying Tryz.underlying96, go_sem, Result.andThen]
theorem asN (w : World) : (Instr.typeAssert .nilIface 20 96 true).run Tryz.prog w = .ok (.tuple #[.agg #[.int .i64 0, .int .i64 0], .bool false]) w := by
  obtain ⟨j, hj, hz⟩ := Option.map_eq_some_iff.1 (show (Tryz.prog.info? 96).map (·.zero) = some (some (.agg #[.int .i64 0, .int .i64 0])) from by kernel_rfl)
  simp [Instr.typeAssert, run_underlying Tryz.underlying96, typeInfo, zeroValue, hj, hz]
def CaQ (g4 g5 g6 : Nat) (K : World → Prop) (at_ er : Int) (w : World) (e : Exit) (a' : Act) (w' : World) : Prop :=
  e = .normal ∧ a'.defers = [] ∧ K w' ∧ w'.cell? ⟨g5, 0, none⟩ = some (.int .i64 at_) ∧ w'.cell? ⟨g6, 0, none⟩ = some (.int .i64 er) ∧ Tu g4 g5 g6 w w'
set_option maxRecDepth 100000 in
set_option maxHeartbeats 1000000 in
theorem catch72_pan (g7 g4 g5 g6 : Nat) (at_ er : Int) (x40 x5 x6 : Value) (w : World) (h45 : ¬ g4 = g5) (h46 : ¬ g4 = g6) (h56 : ¬ g5 = g6) (h74 : ¬ g7 = g4) (h75 : ¬ g7 = g5) (h76 : ¬ g7 = g6)
    (c70 : w.cell? ⟨g7, 0, none⟩ = some (.slice none 0 0)) (c40 : w.cell? ⟨g4, 0, none⟩ = some x40) (c5 : w.cell? ⟨g5, 0, none⟩ = some x5) (c6 : w.cell? ⟨g6, 0, none⟩ = some x6) (f40 : w.frozen? ⟨g4, 0, none⟩ = false) (f5 : w.frozen? ⟨g5, 0, none⟩ = false) (f6 : w.frozen? ⟨g6, 0, none⟩ = false) :
    CallsD Tryz.prog 72 #[.pointer (some ⟨g7, 0, none⟩), .pointer (some ⟨g4, 0, none⟩), .pointer (some ⟨g5, 0, none⟩), .pointer (some ⟨g6, 0, none⟩)] (.panicking [{ v := .iface 96 (.agg #[.int .i64 at_, .int .i64 er]), recovered := false }]) w
      (fun e u' w' => e = .returned (.tuple #[]) ∧ u' = .panicking [{ v := .iface 96 (.agg #[.int .i64 at_, .int .i64 er]), recovered := true }] ∧
        (fun w' => w'.cell? ⟨g4, 0, none⟩ = some (.slice none 0 0)) w' ∧ w'.cell? ⟨g5, 0, none⟩ = some (.int .i64 at_) ∧ w'.cell? ⟨g6, 0, none⟩ = some (.int .i64 er) ∧ Tu g4 g5 g6 w w') := by
  refine callsD_of_wpS Tryz.func72 rfl fun c₀ cs hu => ?_
  apply wpS_seq
  apply wpS_region
  have hrep : Array.replicate 18 undef = #[undef, undef, undef, undef, undef, undef, undef, undef, undef, undef, undef, undef, undef, undef, undef, undef, undef, undef] := rfl
  simp [wpOpsS, go_sem, recoverD, hu, Tryz.ntmps72, Exit.thenS, hrep]
  refine wpS_of_wp ?_
  refine wp_mono (Q := CaQ g4 g5 g6 (fun w' => w'.cell? ⟨g4, 0, none⟩ = some (.slice none 0 0)) at_ er w) ?_ ?_
  · clear hrep hu
    have hasY := asY
    have hlt4 := block_lt_of_cell c40
    have hlt5 := block_lt_of_cell c5
    have hlt6 := block_lt_of_cell c6
    have hlt7 := block_lt_of_cell c70
    have n4 : ¬ g4 = w.heap.size := Nat.ne_of_lt hlt4
    have n5 : ¬ g5 = w.heap.size := Nat.ne_of_lt hlt5
    have n6 : ¬ g6 = w.heap.size := Nat.ne_of_lt hlt6
    have n7 : ¬ g7 = w.heap.size := Nat.ne_of_lt hlt7
    go_upto_region 3 with (fail)
    have hx : Ext w (w.alloc (.cells #[.int .i64 at_, .int .i64 er] 96)) := (Ext.refl w).alloc _
    have hd : (w.alloc (.cells #[.int .i64 at_, .int .i64 er] 96)).heap[w.heap.size]? = some (.cells #[.int .i64 at_, .int .i64 er] 96 (0, 0)) := heap_alloc_new _ _
    have hlt1 : w.heap.size < (w.alloc (.cells #[.int .i64 at_, .int .i64 er] 96)).heap.size := by simp
    generalize w.alloc (.cells #[.int .i64 at_, .int .i64 er] 96) = w1 at *
    obtain ⟨q, qz⟩ := hx.cells
    have c70' := (q g7 0 hlt7).trans c70
    have c40' := (q g4 0 hlt4).trans c40
    have f40' := (qz g4 0 hlt4).trans f40
    have c5' := (q g5 0 hlt5).trans c5
    have c6' := (q g6 0 hlt6).trans c6
    have f5' := (qz g5 0 hlt5).trans f5
    have f6' := (qz g6 0 hlt6).trans f6
    have d0 : w1.cell? ⟨w.heap.size, 0, none⟩ = some (.int .i64 at_) := by rw [cell_of_row w1 _ _ _ 96 (0, 0) hd]; rfl
    have d1 : w1.cell? ⟨w.heap.size, 1, none⟩ = some (.int .i64 er) := by rw [cell_of_row w1 _ _ _ 96 (0, 0) hd]; rfl
    have HX := Lib.hid hx
    clear q qz hx hd c5 c6 f5 f6 c40 c70 f40
    generalize w.heap.size = gf at *
    go_region
    all_goals
      go_wp2
      have k45 : ¬ g5 = g4 := fun e => h45 e.symm
      have k46 : ¬ g6 = g4 := fun e => h46 e.symm
      have k56 : ¬ g6 = g5 := fun e => h56 e.symm
      refine ⟨rfl, rfl, ?_, ?_, ?_, ?_⟩
      · simp [go_sem, *]
      · simp [go_sem, *]
      · simp [go_sem, *]
      · exact (((Tu.of_ext (HX.out.trans (Ext.refl _).drew)).trans (Tu.set _ (.inl rfl))).trans (Tu.set _ (.inr (.inl rfl)))).trans (Tu.set _ (.inr (.inr rfl)))
  · rintro e a w' ⟨rfl, hd, h4, h5, h6, ht⟩
    exact ⟨hd, _, rfl, .tuple #[], by simp [results, Tryz.results72, go_sem], rfl, rfl, h4, h5, h6, ht⟩
set_option maxRecDepth 100000 in
set_option maxHeartbeats 1000000 in
theorem catch72_idle (g7 g4 g5 g6 : Nat) (w : World) :
    CallsD Tryz.prog 72 #[.pointer (some ⟨g7, 0, none⟩), .pointer (some ⟨g4, 0, none⟩), .pointer (some ⟨g5, 0, none⟩), .pointer (some ⟨g6, 0, none⟩)] .returning w (fun e u' w' => e = .returned (.tuple #[]) ∧ u' = .returning ∧ Ext w w') := by
  refine callsD_of_wpS Tryz.func72 rfl fun c₀ cs hu => ?_
  apply wpS_seq
  apply wpS_region
  have hrep : Array.replicate 18 undef = #[undef, undef, undef, undef, undef, undef, undef, undef, undef, undef, undef, undef, undef, undef, undef, undef, undef, undef] := rfl
  simp [wpOpsS, go_sem, recoverD, hu, Tryz.ntmps72, Exit.thenS, hrep]
  refine wpS_of_wp ?_
  refine wp_mono (Q := fun e a' w' => e = .normal ∧ a'.defers = [] ∧ Ext w w') ?_ ?_
  · clear hrep hu
    have hasN := asN
    have hnil : ∀ w : World, (binOp BinOp.neq 20 .nilIface .nilIface).run Tryz.prog w = .ok (.bool false) w := fun _ => by kernel_rfl
    go_wp2
    exact (Ext.refl _).alloc _
  · rintro e a w' ⟨rfl, hd, hx⟩
    exact ⟨hd, .returning, by rw [← hu], .tuple #[], by simp [results, Tryz.results72, go_sem], rfl, rfl, hx⟩
set_option maxRecDepth 100000 in
set_option maxHeartbeats 1000000 in
theorem catch86_pan (g7 g4 g5 g6 : Nat) (at_ er : Int) (x40 x41 x42 x43 x5 x6 : Value) (w : World) (h45 : ¬ g4 = g5) (h46 : ¬ g4 = g6) (h56 : ¬ g5 = g6) (h74 : ¬ g7 = g4) (h75 : ¬ g7 = g5) (h76 : ¬ g7 = g6)
    (c70 : w.cell? ⟨g7, 0, none⟩ = some (.int .i64 0)) (c71 : w.cell? ⟨g7, 1, none⟩ = some (.int .i64 0)) (c72 : w.cell? ⟨g7, 2, none⟩ = some (.string ⟨#[]⟩)) (c73 : w.cell? ⟨g7, 3, none⟩ = some (.slice none 0 0)) (c40 : w.cell? ⟨g4, 0, none⟩ = some x40) (c41 : w.cell? ⟨g4, 1, none⟩ = some x41) (c42 : w.cell? ⟨g4, 2, none⟩ = some x42) (c43 : w.cell? ⟨g4, 3, none⟩ = some x43) (c5 : w.cell? ⟨g5, 0, none⟩ = some x5) (c6 : w.cell? ⟨g6, 0, none⟩ = some x6) (f40 : w.frozen? ⟨g4, 0, none⟩ = false) (f41 : w.frozen? ⟨g4, 1, none⟩ = false) (f42 : w.frozen? ⟨g4, 2, none⟩ = false) (f43 : w.frozen? ⟨g4, 3, none⟩ = false) (f5 : w.frozen? ⟨g5, 0, none⟩ = false) (f6 : w.frozen? ⟨g6, 0, none⟩ = false) :
    CallsD Tryz.prog 86 #[.pointer (some ⟨g7, 0, none⟩), .pointer (some ⟨g4, 0, none⟩), .pointer (some ⟨g5, 0, none⟩), .pointer (some ⟨g6, 0, none⟩)] (.panicking [{ v := .iface 96 (.agg #[.int .i64 at_, .int .i64 er]), recovered := false }]) w
      (fun e u' w' => e = .returned (.tuple #[]) ∧ u' = .panicking [{ v := .iface 96 (.agg #[.int .i64 at_, .int .i64 er]), recovered := true }] ∧
        (fun w' => w'.cell? ⟨g4, 0, none⟩ = some (.int .i64 0) ∧ w'.cell? ⟨g4, 1, none⟩ = some (.int .i64 0) ∧ w'.cell? ⟨g4, 2, none⟩ = some (.string ⟨#[]⟩) ∧ w'.cell? ⟨g4, 3, none⟩ = some (.slice none 0 0)) w' ∧ w'.cell? ⟨g5, 0, none⟩ = some (.int .i64 at_) ∧ w'.cell? ⟨g6, 0, none⟩ = some (.int .i64 er) ∧ Tu g4 g5 g6 w w') := by
  refine callsD_of_wpS Tryz.func86 rfl fun c₀ cs hu => ?_
  apply wpS_seq
  apply wpS_region
  have hrep : Array.replicate 18 undef = #[undef, undef, undef, undef, undef, undef, undef, undef, undef, undef, undef, undef, undef, undef, undef, undef, undef, undef] := rfl
  simp [wpOpsS, go_sem, recoverD, hu, Tryz.ntmps86, Exit.thenS, hrep]
  refine wpS_of_wp ?_
  refine wp_mono (Q := CaQ g4 g5 g6 (fun w' => w'.cell? ⟨g4, 0, none⟩ = some (.int .i64 0) ∧ w'.cell? ⟨g4, 1, none⟩ = some (.int .i64 0) ∧ w'.cell? ⟨g4, 2, none⟩ = some (.string ⟨#[]⟩) ∧ w'.cell? ⟨g4, 3, none⟩ = some (.slice none 0 0)) at_ er w) ?_ ?_
  · clear hrep hu
    have hasY := asY
    have hlt4 := block_lt_of_cell c40
    have hlt5 := block_lt_of_cell c5
    have hlt6 := block_lt_of_cell c6
    have hlt7 := block_lt_of_cell c70
    have n4 : ¬ g4 = w.heap.size := Nat.ne_of_lt hlt4
    have n5 : ¬ g5 = w.heap.size := Nat.ne_of_lt hlt5
    have n6 : ¬ g6 = w.heap.size := Nat.ne_of_lt hlt6
    have n7 : ¬ g7 = w.heap.size := Nat.ne_of_lt hlt7
    go_upto_region 3 with (fail)
    have hx : Ext w (w.alloc (.cells #[.int .i64 at_, .int .i64 er] 96)) := (Ext.refl w).alloc _
    have hd : (w.alloc (.cells #[.int .i64 at_, .int .i64 er] 96)).heap[w.heap.size]? = some (.cells #[.int .i64 at_, .int .i64 er] 96 (0, 0)) := heap_alloc_new _ _
    have hlt1 : w.heap.size < (w.alloc (.cells #[.int .i64 at_, .int .i64 er] 96)).heap.size := by simp
    generalize w.alloc (.cells #[.int .i64 at_, .int .i64 er] 96) = w1 at *
    obtain ⟨q, qz⟩ := hx.cells
    have c70' := (q g7 0 hlt7).trans c70
    have c40' := (q g4 0 hlt4).trans c40
    have f40' := (qz g4 0 hlt4).trans f40
    have c71' := (q g7 1 hlt7).trans c71
    have c41' := (q g4 1 hlt4).trans c41
    have f41' := (qz g4 1 hlt4).trans f41
    have c72' := (q g7 2 hlt7).trans c72
    have c42' := (q g4 2 hlt4).trans c42
    have f42' := (qz g4 2 hlt4).trans f42
    have c73' := (q g7 3 hlt7).trans c73
    have c43' := (q g4 3 hlt4).trans c43
    have f43' := (qz g4 3 hlt4).trans f43
    have c5' := (q g5 0 hlt5).trans c5
    have c6' := (q g6 0 hlt6).trans c6
    have f5' := (qz g5 0 hlt5).trans f5
    have f6' := (qz g6 0 hlt6).trans f6
    have d0 : w1.cell? ⟨w.heap.size, 0, none⟩ = some (.int .i64 at_) := by rw [cell_of_row w1 _ _ _ 96 (0, 0) hd]; rfl
    have d1 : w1.cell? ⟨w.heap.size, 1, none⟩ = some (.int .i64 er) := by rw [cell_of_row w1 _ _ _ 96 (0, 0) hd]; rfl
    have HX := Lib.hid hx
    clear q qz hx hd c5 c6 f5 f6 c40 c70 f40 c41 c71 f41 c42 c72 f42 c43 c73 f43
    generalize w.heap.size = gf at *
    go_region
    all_goals
      go_wp2
      have k45 : ¬ g5 = g4 := fun e => h45 e.symm
      have k46 : ¬ g6 = g4 := fun e => h46 e.symm
      have k56 : ¬ g6 = g5 := fun e => h56 e.symm
      refine ⟨rfl, rfl, ?_, ?_, ?_, ?_⟩
      · refine ⟨?_, ?_, ?_, ?_⟩ <;> simp [go_sem, *]
      · simp [go_sem, *]
      · simp [go_sem, *]
      · exact (((((((Tu.of_ext HX.out).trans (Tu.set _ (.inl rfl))).trans (Tu.set _ (.inl rfl))).trans (Tu.set _ (.inl rfl))).trans (Tu.set _ (.inl rfl))).trans (Tu.set _ (.inr (.inl rfl)))).trans (Tu.set _ (.inr (.inr rfl)))).trans (Tu.of_ext (Ext.refl _).drew)
  · rintro e a w' ⟨rfl, hd, h4, h5, h6, ht⟩
    exact ⟨hd, _, rfl, .tuple #[], by simp [results, Tryz.results86, go_sem], rfl, rfl, h4, h5, h6, ht⟩
set_option maxRecDepth 100000 in
set_option maxHeartbeats 1000000 in
theorem catch86_idle (g7 g4 g5 g6 : Nat) (w : World) :
    CallsD Tryz.prog 86 #[.pointer (some ⟨g7, 0, none⟩), .pointer (some ⟨g4, 0, none⟩), .pointer (some ⟨g5, 0, none⟩), .pointer (some ⟨g6, 0, none⟩)] .returning w (fun e u' w' => e = .returned (.tuple #[]) ∧ u' = .returning ∧ Ext w w') := by
  refine callsD_of_wpS Tryz.func86 rfl fun c₀ cs hu => ?_
  apply wpS_seq
  apply wpS_region
  have hrep : Array.replicate 18 undef = #[undef, undef, undef, undef, undef, undef, undef, undef, undef, undef, undef, undef, undef, undef, undef, undef, undef, undef] := rfl
  simp [wpOpsS, go_sem, recoverD, hu, Tryz.ntmps86, Exit.thenS, hrep]
  refine wpS_of_wp ?_
  refine wp_mono (Q := fun e a' w' => e = .normal ∧ a'.defers = [] ∧ Ext w w') ?_ ?_
  · clear hrep hu
    have hasN := asN
    have hnil : ∀ w : World, (binOp BinOp.neq 20 .nilIface .nilIface).run Tryz.prog w = .ok (.bool false) w := fun _ => by kernel_rfl
    go_wp2
    exact (Ext.refl _).alloc _
  · rintro e a w' ⟨rfl, hd, hx⟩
    exact ⟨hd, .returning, by rw [← hu], .tuple #[], by simp [results, Tryz.results86, go_sem], rfl, rfl, hx⟩
end Go.Proofs.YtnpenepdechkjaaGreatDoor

/- What parse computes, in plain Lean; the lexer's lists are short. -/
namespace Go.Proofs.YtnpenepdechkjaaGreatDoor
open Go

theorem lexW_short : ∀ (m : Nat) (s : List UInt8), s.length ≤ m → ∀ k, (lexW k s).l.length ≤ s.length + 1 ∧ ∀ t ∈ (lexW k s).l, t.tx.length ≤ s.length := by
  intro m
  induction m with
  | zero =>
    intro s hs k
    obtain rfl : s = [] := List.length_eq_zero_iff.1 (by omega)
    rw [lex_end (k := k) (s := []) rfl]; simp
  | succ m ih =>
    intro s hs k
    have hl := skipB_len false s
    rcases lex_cases k s with ⟨h0, h1⟩ | ⟨e, h0, ht, hne, h1⟩ | ⟨kd, n, v, h0, ht, hn, hnl, h1⟩
    · rw [h1]
      refine ⟨by simp, fun t ht => ?_⟩
      obtain rfl : t = endT _ := by simpa using ht
      simp [endT]
    · rw [h1]; simp
    · have hr := rest_lt h0 hn
      obtain ⟨g1, g2⟩ := ih ((skipB false s).drop n) (by omega) (k + (s.length - (skipB false s).length) + n)
      rw [h1]
      by_cases he : (lexW (k + (s.length - (skipB false s).length) + n) ((skipB false s).drop n)).e = 0
      · rw [put_ok he]
        refine ⟨by simp only [List.length_cons]; omega, fun t ht => ?_⟩
        rcases List.mem_cons.1 ht with rfl | ht
        · simp only [List.length_take]; omega
        · have := g2 t ht; omega
      · rw [put_err he]; exact ⟨by omega, fun t ht => by have := g2 t ht; omega⟩
theorem lexT_ok {s : List UInt8} (h : (lexT s).e = 0) : WfT (lexT s).l ∧ (lexT s).l.length ≤ 4001 ∧ 0 < (lexT s).l.length ∧ (∀ t ∈ (lexT s).l, t.tx.length ≤ 4000) ∧ lexT s = lexW 0 s ∧ s.length ≤ 4000 := by
  unfold lexT at h ⊢
  by_cases hb : 4000 < s.length
  · rw [if_pos hb] at h; cases h
  · rw [if_neg hb] at h ⊢
    obtain ⟨h1, h2⟩ := lexW_short s.length s (Nat.le_refl _) 0
    obtain ⟨_, ts, h3, h4⟩ := lex_toks s.length s (Nat.le_refl _) 0 h
    have hw : WfT (lexW 0 s).l := ⟨ts, _, h3, h4⟩
    exact ⟨hw, by omega, hw.pos, fun t ht => by have := h2 t ht; omega, rfl, by omega⟩
/-- What parse answers. -/
def parseG {α : Type} (rd : List Tk → PR α) (d : α) (x : LexR) : α × Int × Int :=
  if x.e = 0 then (match rd x.l with
    | .ok v r => if (hd r).kd = 0 then (v, 0, 0) else (d, (hd r).at_, 20)
    | .bad r e => (d, (hd r).at_, e)) else (d, x.off, x.e)
/-- The expressions' reader, with fuel for every source. -/
def EX : List Tk → PR Tr := exprP 40000 1 0
theorem loc_EX (m : Nat) : Loc m EX := loc_expr 40000 1 0 m (by omega)
def parseR (s : List UInt8) : List Rl × Int × Int := parseG (RP EX []) [] (lexT s)
def parseE (s : List UInt8) : Tr × Int × Int := parseG EX (.nd 0 0 [] []) (lexT s)
end Go.Proofs.YtnpenepdechkjaaGreatDoor

/- strings.ContainsRune of the white space, at the runes from 128 to 255. -/
namespace Go.Proofs.YtnpenepdechkjaaGreatDoor
open Go Go.RowKit

theorem idx_high (y : UInt8) (hy : 128 ≤ y.toNat) (X : World) : Calls Tryz.prog 112 #[.string ((⟨#[9, 10, 13, 32]⟩ : ByteArray).extract 2 4), .int .u8 (y.toNat : Int)] X fun e X' => e = .returned (.int .i64 (-1)) ∧ X' = X := by
  refine (Tryz.strings_IndexByte _ _ _).mono ?_
  rintro e X' ⟨rfl, rfl⟩
  refine ⟨?_, rfl⟩
  have e : ((⟨#[9, 10, 13, 32]⟩ : ByteArray).extract 2 4).data.toList = [13, 32] := by decide
  have e2 : ((y.toNat : Int)).toNat.toUInt8 = y := by simp
  rw [e, e2]
  have hm : ¬ 0 ≤ Lib.indexByte [13, 32] y := fun h => by
    have := (index_mem _ _).1 h
    simp at this
    rcases this with rfl | rfl <;> revert hy <;> decide
  have hg := Lib.indexByte_ge [13, 32] y
  rw [show Lib.indexByte [13, 32] y = -1 by omega]
set_option maxHeartbeats 4000000 in
set_option maxRecDepth 1000000 in
theorem idxr_high (r : Nat) (w : World) (h1 : 128 ≤ r) (h2 : r ≤ 255) : Calls Tryz.prog 113 #[.string ⟨#[9, 10, 13, 32]⟩, .int .i32 r] w (fun e w' => e = .returned (.int .i64 (-1)) ∧ Ext w w') := by
  have g1 : ¬ (r : Int) < 128 := by omega
  have g2 : ((r : Int) == 65533) = false := by rw [beq_eq_false_iff_ne]; omega
  have hvr : Lib.validRune (r : Int) = true := by unfold Lib.validRune; simp; omega
  have HV := Lib.hid (fun X => Tryz.utf8_ValidRune (r : Int) X)
  rw [hvr] at HV
  clear hvr
  have hcv : ∀ W : World, (convert 21 9 (.int .i32 (r : Int))).run Tryz.prog W = .ok (.string (Utf8.encode (r : Int))) W := fun W => by
    simp [convert, run_underlying Tryz.underlying21, run_underlying Tryz.underlying9, Conv.intToString]
  obtain ⟨x, y, hxy, hy1, hy2⟩ : ∃ x y : UInt8, Utf8.encode (r : Int) = ⟨#[x, y]⟩ ∧ 128 ≤ y.toNat ∧ y.toNat ≤ 255 := by
    have hv : Utf8.valid (r : Int) = true := by simp [Utf8.valid]; omega
    refine ⟨_, _, by unfold Utf8.encode; rw [if_pos hv, Int.toNat_natCast]; simp only; rw [if_neg (by omega), if_pos (by omega)], ?_, ?_⟩
    · rw [UInt8.toNat_ofNat']; omega
    · rw [UInt8.toNat_ofNat']; omega
  rw [hxy] at hcv
  clear hxy
  have hne : ∀ (p : 1 < (⟨#[9, 10, 13, 32]⟩ : ByteArray).size) (q : 1 < (⟨#[x, y]⟩ : ByteArray).size), ((((⟨#[9, 10, 13, 32]⟩ : ByteArray)[1]'p).toNat : Int) != (((⟨#[x, y]⟩ : ByteArray)[1]'q).toNat : Int)) = true := fun p q => by
    have e : ((10 : Int) != (y.toNat : Int)) = true := by rw [bne_iff_ne]; omega
    exact e
  have HI := Lib.hid (fun (z : UInt8) (hz : z = y) X => (idx_high z (by rw [hz]; exact hy1) X : Calls Tryz.prog 112 #[.string ((⟨#[9, 10, 13, 32]⟩ : ByteArray).extract 2 4), .int .u8 (z.toNat : Int)] X fun e X' => e = .returned (.int .i64 (-1)) ∧ X' = X))
  go_enter Tryz.func113, Tryz.ntmps113
  go_wp2_with (first | (go_at_call 149; refine (HV.out _).mono ?_; rintro e w1 ⟨rfl, rfl⟩))
  go_step3
  go_wp2
  refine wp_loop_rounds 1 ?_
  rw [rounds_succ]
  go_wp2
  go_step3
  go_wp2
  go_quiet (fail)
  go_wp2
  go_quiet (first | (go_at_call 112; refine (HI.out ((⟨#[x, y]⟩ : ByteArray)[1]'(show 1 < 2 by decide)) rfl _).mono ?_; rintro e w'' ⟨rfl, rfl⟩; exact ⟨rfl, _, rfl⟩))
  go_wp2
  rw [Exit.noGoto_ret]
  go_wp2
  rw [Exit.noGoto_ret]
  go_ret
  exact ⟨rfl, (Ext.refl _).drewN _⟩
theorem blk_mem (c : UInt8) : blk c = decide (0 ≤ Lib.indexByte [9, 10, 13, 32] c) := by
  rw [Bool.eq_iff_iff, decide_eq_true_eq, index_mem]
  simp [blk]
set_option maxRecDepth 100000 in
theorem crune_any (c : UInt8) (w : World) : Calls Tryz.prog 63 #[.string ⟨#[9, 10, 13, 32]⟩, .int .i32 (c.toNat : Int)] w (BoolPost (blk c) w) := by
  by_cases h : c.toNat < 128
  · refine (Tryz.strings_ContainsRune_ascii _ _ w (by omega) (by omega)).mono ?_
    rintro e w' ⟨rfl, rfl⟩
    refine ⟨?_, Ext.refl _⟩
    rw [blk_mem]
    simp
  · have hb : blk c = false := by
      rw [Bool.eq_false_iff]; intro hb
      simp [blk] at hb
      rcases hb with rfl | rfl | rfl | rfl <;> exact h (by decide)
    rw [hb]
    have HI := Lib.hid (fun X => idxr_high c.toNat X (by omega) (by have := c.toNat_lt; omega))
    clear hb h
    go_enter Tryz.func63, Tryz.ntmps63
    go_wp2_with (first | (go_at_call 113; refine (HI.out _).mono ?_; rintro e w1 ⟨rfl, hx⟩))
    go_ret
    exact ⟨rfl, hx⟩
end Go.Proofs.YtnpenepdechkjaaGreatDoor

/- The contract of lexer.Tokens. -/
namespace Go.Proofs.YtnpenepdechkjaaGreatDoor
open Go Go.RowKit

def TRel (W : World) (l : List UInt8) (s5 s6 : Value) (w' : World) : Prop :=
  ∃ (a : Nat) (A : Option Addr) (c : Nat) (pre : List Tk), a ≤ l.length ∧ s6 = .int .i64 a ∧ s5 = .slice A pre.length c ∧ OL tcf 4 w' W.heap.size 46 s5 pre ∧ Ext W w' ∧ pre.length ≤ a ∧ lexW 0 l = LexR.putAll pre (lexW a (l.drop a))
theorem lowI_low (c : UInt8) : lowI (c.toNat : Int) = low c := by
  unfold lowI low
  congr 1 <;> (rw [decide_eq_decide]; omega)
theorem tpost_okk {R : ByteArray} {W W' : World} {e : Ending} {k v : Int} {n : Nat} {l : List UInt8} (ht : tok1 l = .ok k n v) (hl : R.data.toList = l) (h : TPost (tok1 l) R W e W') :
    ∃ S : ByteArray, S.size = n ∧ Hid (S.data.toList = l.take n) ∧ e = .returned (.tuple #[.agg #[.int .i64 k, .int .i64 0, .string S, .int .i64 v], .int .i64 0]) ∧ Ext W W' := by
  have hn := (tok1_len ht).2
  rw [ht] at h
  obtain ⟨⟨S, hS, rfl⟩, hx⟩ := h
  rw [hl] at hS
  refine ⟨S, ?_, Lib.hid hS, rfl, hx⟩
  rw [← list_size, hS, List.length_take]; omega
theorem own_new {W : World} {base : Nat} {e : TypeId} {A : Option Addr} {n c b : Nat} {l : List Tk} (h : OL tcf 4 W base e (.slice A n c) l) (hb : W.heap.size ≤ b) : ∀ a, Value.slice A n c ≠ .slice (some ⟨b, 0, none⟩) l.length a := by
  intro a he
  injection he with e1 _ _
  subst e1
  obtain ⟨A', c', e', _, h2⟩ := own_form h
  injection e' with e1 _ _
  subst e1
  rcases h2 with ⟨h2, _⟩ | ⟨g, h2, _, h3, _⟩
  · cases h2
  · injection h2 with h2; injection h2 with h2; omega
theorem tok_post_err {W W' : World} {l : List UInt8} {a : Nat} {e : Int} (h : lexT l = lexW 0 l) (h2 : lexW 0 l = ⟨[], (a : Nat), e⟩) (hx : Ext W W') :
    TokPost W (lexT l) (.returned (.tuple #[.slice none 0 0, .int .i64 a, .int .i64 e])) W' := by
  rw [h, h2]; exact ⟨none, 0, rfl, SL.nil _, hx, Nat.zero_le _⟩
theorem tokens_err {l : List UInt8} {a : Nat} {pre : List Tk} {b : UInt8} {r : List UInt8} {e : Int} (h : lexW 0 l = LexR.putAll pre (lexW a (l.drop a))) (hl : l.drop a = b :: r) (hb : blk b = false) (h35 : b ≠ 35) (ht : tok1 (b :: r) = .err e) :
    lexW 0 l = ⟨[], (a : Nat), e⟩ := by
  rw [h, hl, lex_tok_err hb h35 ht, putAll_err (tok1_err_ne ht)]
theorem tokens_ok {l : List UInt8} {a n : Nat} {pre : List Tk} {b : UInt8} {r : List UInt8} {k v : Int} (h : lexW 0 l = LexR.putAll pre (lexW a (l.drop a))) (hl : l.drop a = b :: r) (hb : blk b = false) (h35 : b ≠ 35) (ht : tok1 (b :: r) = .ok k n v) :
    lexW 0 l = LexR.putAll (pre ++ [⟨k, (a : Nat), (b :: r).take n, v⟩]) (lexW (a + n) (l.drop (a + n))) := by
  rw [h, hl, lex_tok_ok hb h35 ht, LexR.putAll, LexR.putAll, List.foldr_append, List.foldr_cons, List.foldr_nil, ← hl, List.drop_drop]
def tokM (n : Nat) (v : Value) : Nat := match v with | .int _ z => n - z.toNat | _ => 0
set_option maxHeartbeats 4000000 in
set_option maxRecDepth 100000 in
theorem tokens_any (s : ByteArray) (w : World) (hs : s.size ≤ 281474976710656) (hR : EnvR w) (hL : EnvL w) : Calls Tryz.prog 28 #[.string s] w (TokPost w (lexT s.data.toList)) := by
  by_cases hbig : 4000 < s.size
  · have hT : lexT s.data.toList = ⟨[], 4000, 2⟩ := by rw [lexT, if_pos (by rw [list_size]; exact hbig)]
    have HT := Lib.hid hT
    have hb' : (4000 : Int) < (s.size : Int) := by omega
    clear hT
    go_enter Tryz.func28, Tryz.ntmps28
    go_wp2
    go_step3
    go_wp2
    rw [Exit.noGoto_ret]
    refine bodyPost_ret (v := .tuple #[.slice none 0 0, .int .i64 4000, .int .i64 2]) (by simp [results, Tryz.results28, go_sem, *]) rfl ?_
    rw [HT.out]
    exact ⟨none, 0, rfl, SL.nil _, Ext.refl _, Nat.zero_le _⟩
  · have hT : lexT s.data.toList = lexW 0 s.data.toList := by rw [lexT, if_neg (by rw [list_size]; exact hbig)]
    have HT := Lib.hid hT
    have hb' : ¬ (4000 : Int) < (s.size : Int) := by omega
    have HR := Lib.hid hR
    have HL := Lib.hid hL
    clear hT hR hL
    go_enter Tryz.func28, Tryz.ntmps28
    go_wp2
    go_step3
    go_wp2
    go_step3
    go_wp2
    go_loopw [5, 6] (fun s5 s6 w' => TRel w s.data.toList s5 s6 w') (fun _ s6 _ => tokM s.size s6)
    case atStart => exact ⟨0, none, 0, [], by omega, rfl, rfl, OL.nil _ _ _, Ext.refl _, by simp, by rw [putAll_nil, List.drop_zero]⟩
    case round =>
      obtain ⟨a, A, c, pre, ha, rfl, rfl, ho, hx, hpl, hlx⟩ := hrel
      have HO := Lib.hid ho
      have HX := Lib.hid hx
      have HLX := Lib.hid hlx
      rw [list_size] at ha
      clear ho hx hlx
      by_cases hal : a < s.size
      · have hsz0 : 0 < (s.extract a s.size).size := by rw [ByteArray.size_extract]; omega
        have hl := get_list s a hal
        obtain ⟨b, hb⟩ : ∃ b : UInt8, b = s[a]'hal := ⟨_, rfl⟩
        rw [← hb] at hl
        have hgt : ∀ h : 0 < (s.extract a s.size).size, (s.extract a s.size)[0]'h = b := fun h => by rw [hb]; simp [ByteArray.getElem_extract]
        have hwr : RowKit.wrap32 (b.toNat : Int) = (b.toNat : Int) := by unfold RowKit.wrap32; (have := b.toNat_lt; omega)
        have HC := Lib.hid (fun X => crune_any b X)
        have HLL := Lib.hid hl
        clear hl hb
        cases hbk : blk b with
        | true =>
          rw [hbk] at HC
          have FIN := Lib.hid (show lexW 0 s.data.toList = LexR.putAll pre (lexW (a + 1) (s.data.toList.drop (a + 1))) by rw [HLX.out, HLL.out, lex_blank hbk])
          clear hbk HLX HLL
          have hin : s.data.toList.length = s.size := list_size s
          clear hin
          go_wp2_with (first | (go_at_call 63; refine (HC.out _).mono ?_; rintro e w1 ⟨rfl, hx1⟩))
          refine ⟨⟨a + 1, A, c, pre, by rw [list_size]; omega, by simp, rfl, HO.out.ext hx1, HX.out.trans hx1, by omega, FIN.out⟩, by simp [tokM]; omega⟩
        | false =>
          rw [hbk] at HC
          by_cases h35 : b = 35
          · have HF := Lib.hid (fun X => first29_any (s.extract a s.size) X (by rw [ByteArray.size_extract]; omega))
            have el : (s.extract a s.size).data.toList = s.data.toList.drop a := by rw [extract_list]; apply List.take_of_length_le; rw [List.length_drop, list_size]; omega
            have hle := twn_size nlB (s.extract a s.size)
            rw [el] at HF hle
            rw [ByteArray.size_extract] at hle
            have hge : 1 ≤ twn nlB (s.data.toList.drop a) := by rw [HLL.out, twn_go (by rw [h35]; decide)]; omega
            obtain ⟨n, hn⟩ : ∃ n, n = twn nlB (s.data.toList.drop a) := ⟨_, rfl⟩
            have FIN := Lib.hid (show lexW 0 s.data.toList = LexR.putAll pre (lexW (a + n) (s.data.toList.drop (a + n))) by
              rw [HLX.out, hn, ← List.drop_drop, HLL.out, lex_comment h35])
            rw [← hn] at HF hle hge
            have h35' : ((b.toNat : Int) == 35) = true := by rw [h35]; rfl
            clear hbk HLX HLL hn el h35
            go_wp2_with (first | (go_at_call 63; refine (HC.out _).mono ?_; rintro e w1 ⟨rfl, hx1⟩) | (go_at_call 64; refine (HF.out _).mono ?_; rintro e w2 ⟨rfl, hx2⟩))
            refine ⟨⟨a + n, A, c, pre, by rw [list_size]; omega, by simp, rfl, (HO.out.ext hx1).ext hx2, (HX.out.trans hx1).trans hx2, by omega, FIN.out⟩, by simp [tokM]; omega⟩
          · have h35' : ((b.toNat : Int) == 35) = false := by
              rw [beq_eq_false_iff_ne]; intro e; exact h35 (UInt8.toNat_inj.1 (by have : (35 : UInt8).toNat = 35 := rfl; omega))
            have el : (s.extract a s.size).data.toList = s.data.toList.drop a := by rw [extract_list]; apply List.take_of_length_le; rw [List.length_drop, list_size]; omega
            have HER := Lib.hid (fun e (h : tok1 (b :: s.data.toList.drop (a + 1)) = .err e) => tokens_err HLX.out HLL.out hbk h35 h)
            have HOK := Lib.hid (fun k n v (h : tok1 (b :: s.data.toList.drop (a + 1)) = .ok k n v) => tokens_ok HLX.out HLL.out hbk h35 h)
            have HLE := Lib.hid (fun X => letter_any (b.toNat : Int) X)
            rw [show lowI (b.toNat : Int) = low b from lowI_low b] at HLE
            cases hlo : low b with
            | true =>
              rw [hlo] at HLE
              have HRD := Lib.hid (fun X => word_any (s.extract a s.size) X (by rw [ByteArray.size_extract]; omega))
              rw [show wordT (s.extract a s.size).data.toList = tok1 (b :: s.data.toList.drop (a + 1)) by rw [el, HLL.out, tok1_word hlo]] at HRD
              cases ht : tok1 (b :: s.data.toList.drop (a + 1)) with
              | err e =>
                rw [ht] at HRD
                have HFIN := Lib.hid (HER.out e ht)
                have hne : (e == 0) = false := by simpa using tok1_err_ne ht
                clear hbk HLX HLL h35 hlo el HER HOK ht
                go_wp2_with (first | (go_at_call 63; refine (HC.out _).mono ?_; rintro e w1 ⟨rfl, hx1⟩) | (go_at_call 66; refine (HLE.out _).mono ?_; rintro e w2 ⟨rfl, rfl⟩) | (go_at_call 67; refine (HRD.out _).mono ?_; rintro e' w2 ⟨rfl, hx2⟩))
                rw [Exit.noGoto_ret]
                refine bodyPost_ret (v := .tuple #[.slice none 0 0, .int .i64 a, .int .i64 e]) (by simp [results, Tryz.results28, go_sem]) rfl ?_
                exact tok_post_err HT.out HFIN.out (((HX.out.trans hx1).trans hx2).alloc _)
              | ok k n v =>
                have hnr := (tok1_len ht)
                rw [List.length_cons, List.length_drop, list_size] at hnr
                have hn0 : 0 < n := hnr.1
                have hnz : a + n ≤ s.size := by omega
                have HRO := Lib.hid (fun X e W' (hp : TPost (tok1 (b :: s.data.toList.drop (a + 1))) (s.extract a s.size) X e W') => tpost_okk ht (el.trans HLL.out) hp)
                have HFIN := Lib.hid (HOK.out k n v ht)
                clear hbk HLX HLL h35 hlo el HER HOK ht hnr
                go_upto_region 23 with (first | (go_at_call 63; refine (HC.out _).mono ?_; rintro e w1 ⟨rfl, hx1⟩) | (go_at_call 66; refine (HLE.out _).mono ?_; rintro e w2 ⟨rfl, rfl⟩) | (go_at_call 67; refine (HRD.out _).mono ?_; intro e' w2 hp; obtain ⟨S, hSn, HS, rfl, hx2⟩ := HRO.out _ _ _ hp; clear hp))
                have hxx := hx1.trans hx2
                have hown := own_new (HO.out.ext hxx) (Nat.le_refl _)
                obtain ⟨A5, c5, w5, hrun, ho5, hb5, hk5⟩ := ap23_one (w2.alloc (.cells #[.int .i64 k, .int .i64 a, .string S, .int .i64 v] 46)) ((HO.out.ext hxx).ext ((Ext.refl _).alloc _)) k a v S (S.data.toList) rfl (w2.heap.size + 1) (by simp) (by omega) (by simp; exact Nat.le_trans HX.out.lt (Nat.le_trans hxx.lt (Nat.le_succ _)))
                have hk6 := hk5 w2.heap.size (by simp) hown
                have hc2 : w5.cell? ⟨w2.heap.size, 2, none⟩ = some (.string S) := by
                  rw [cell_of_row w5 w2.heap.size _ _ 46 (0, 0) (hk6.trans (heap_alloc_new w2 _))]; rfl
                have HO5 := Lib.hid ho5
                have HB5 := Lib.hid hb5
                have HXX := Lib.hid hxx
                clear ho5 hb5 hk5 hk6 hown hx1 hx2 hxx
                have han : (a : Int) + (n : Int) ≤ 4000 := by omega
                go_wp2_with (first | (at_builtin; refine wpList_append_run (s := .tmp 58) (x := .tmp 60) hrun rfl rfl rfl rfl rfl ?_))
                refine ⟨⟨a + n, A5, c5, pre ++ [⟨k, a, S.data.toList, v⟩], by rw [list_size]; omega, by simp, by rw [List.length_append]; rfl, HO5.out, ?_, by rw [List.length_append, List.length_singleton]; omega, ?_⟩, by simp [tokM]; omega⟩
                · exact Below.trans ((HX.out.trans HXX.out).alloc _) HB5.out
                · rw [HS.out]; exact HFIN.out
            | false =>
              rw [hlo] at HLE
              have HDI := Lib.hid (fun X => digit_any (b.toNat : Int) X)
              rw [show digI (b.toNat : Int) = dig b from digI_dig b] at HDI
              cases hdi : dig b with
              | true =>
                rw [hdi] at HDI
                have HRD := Lib.hid (fun X (hX : Ext w X) => num_any (s.extract a s.size) X (by rw [ByteArray.size_extract]; omega) hsz0 (by rw [hgt hsz0]; exact hdi) (HR.out.ext hX))
                rw [show numT (s.extract a s.size).data.toList = tok1 (b :: s.data.toList.drop (a + 1)) by rw [el, HLL.out, tok1_num hlo hdi]] at HRD
                cases ht : tok1 (b :: s.data.toList.drop (a + 1)) with
                | err e =>
                  rw [ht] at HRD
                  have HFIN := Lib.hid (HER.out e ht)
                  have hne : (e == 0) = false := by simpa using tok1_err_ne ht
                  clear hbk HLX HLL h35 hlo el HER HOK ht hdi
                  go_wp2_with (first | (go_at_call 63; refine (HC.out _).mono ?_; rintro e w1 ⟨rfl, hx1⟩) | (go_at_call 66; refine (HLE.out _).mono ?_; rintro e w2 ⟨rfl, rfl⟩) | (go_at_call 68; refine (HDI.out _).mono ?_; rintro e w2 ⟨rfl, rfl⟩) | (go_at_call 69; refine (HRD.out _ ?_).mono ?_; exact HX.out.trans hx1; rintro e' w2 ⟨rfl, hx2⟩))
                  rw [Exit.noGoto_ret]
                  refine bodyPost_ret (v := .tuple #[.slice none 0 0, .int .i64 a, .int .i64 e]) (by simp [results, Tryz.results28, go_sem]) rfl ?_
                  exact tok_post_err HT.out HFIN.out (((HX.out.trans hx1).trans hx2).alloc _)
                | ok k n v =>
                  have hnr := (tok1_len ht)
                  rw [List.length_cons, List.length_drop, list_size] at hnr
                  have hn0 : 0 < n := hnr.1
                  have hnz : a + n ≤ s.size := by omega
                  have HRO := Lib.hid (fun X e W' (hp : TPost (tok1 (b :: s.data.toList.drop (a + 1))) (s.extract a s.size) X e W') => tpost_okk ht (el.trans HLL.out) hp)
                  have HFIN := Lib.hid (HOK.out k n v ht)
                  clear hbk HLX HLL h35 hlo el HER HOK ht hnr hdi
                  go_upto_region 23 with (first | (go_at_call 63; refine (HC.out _).mono ?_; rintro e w1 ⟨rfl, hx1⟩) | (go_at_call 66; refine (HLE.out _).mono ?_; rintro e w2 ⟨rfl, rfl⟩) | (go_at_call 68; refine (HDI.out _).mono ?_; rintro e w2 ⟨rfl, rfl⟩) | (go_at_call 69; refine (HRD.out _ ?_).mono ?_; exact HX.out.trans hx1; intro e' w2 hp; obtain ⟨S, hSn, HS, rfl, hx2⟩ := HRO.out _ _ _ hp; clear hp))
                  have hxx := hx1.trans hx2
                  have hown := own_new (HO.out.ext hxx) (Nat.le_refl _)
                  obtain ⟨A5, c5, w5, hrun, ho5, hb5, hk5⟩ := ap23_one (w2.alloc (.cells #[.int .i64 k, .int .i64 a, .string S, .int .i64 v] 46)) ((HO.out.ext hxx).ext ((Ext.refl _).alloc _)) k a v S (S.data.toList) rfl (w2.heap.size + 1) (by simp) (by omega) (by simp; exact Nat.le_trans HX.out.lt (Nat.le_trans hxx.lt (Nat.le_succ _)))
                  have hk6 := hk5 w2.heap.size (by simp) hown
                  have hc2 : w5.cell? ⟨w2.heap.size, 2, none⟩ = some (.string S) := by
                    rw [cell_of_row w5 w2.heap.size _ _ 46 (0, 0) (hk6.trans (heap_alloc_new w2 _))]; rfl
                  have HO5 := Lib.hid ho5
                  have HB5 := Lib.hid hb5
                  have HXX := Lib.hid hxx
                  clear ho5 hb5 hk5 hk6 hown hx1 hx2 hxx
                  have han : (a : Int) + (n : Int) ≤ 4000 := by omega
                  go_wp2_with (first | (at_builtin; refine wpList_append_run (s := .tmp 58) (x := .tmp 60) hrun rfl rfl rfl rfl rfl ?_))
                  refine ⟨⟨a + n, A5, c5, pre ++ [⟨k, a, S.data.toList, v⟩], by rw [list_size]; omega, by simp, by rw [List.length_append]; rfl, HO5.out, ?_, by rw [List.length_append, List.length_singleton]; omega, ?_⟩, by simp [tokM]; omega⟩
                  · exact Below.trans ((HX.out.trans HXX.out).alloc _) HB5.out
                  · rw [HS.out]; exact HFIN.out
              | false =>
                rw [hdi] at HDI
                by_cases h64 : b = 64
                · have h64' : ((b.toNat : Int) == 64) = true := by rw [h64]; rfl
                  have HRD := Lib.hid (fun X (hX : Ext w X) => lday_any (s.extract a s.size) X (by rw [el, HLL.out, h64]; rfl) (by rw [ByteArray.size_extract]; omega) (HL.out.ext hX))
                  rw [show dayT (s.extract a s.size).data.toList = tok1 (b :: s.data.toList.drop (a + 1)) by rw [el, HLL.out, tok1_day hlo hdi h64]] at HRD
                  cases ht : tok1 (b :: s.data.toList.drop (a + 1)) with
                  | err e =>
                    rw [ht] at HRD
                    have HFIN := Lib.hid (HER.out e ht)
                    have hne : (e == 0) = false := by simpa using tok1_err_ne ht
                    clear hbk HLX HLL h35 hlo el HER HOK ht hdi h64
                    go_wp2_with (first | (go_at_call 63; refine (HC.out _).mono ?_; rintro e w1 ⟨rfl, hx1⟩) | (go_at_call 66; refine (HLE.out _).mono ?_; rintro e w2 ⟨rfl, rfl⟩) | (go_at_call 68; refine (HDI.out _).mono ?_; rintro e w2 ⟨rfl, rfl⟩) | (go_at_call 70; refine (HRD.out _ ?_).mono ?_; exact HX.out.trans hx1; rintro e' w2 ⟨rfl, hx2⟩))
                    rw [Exit.noGoto_ret]
                    refine bodyPost_ret (v := .tuple #[.slice none 0 0, .int .i64 a, .int .i64 e]) (by simp [results, Tryz.results28, go_sem]) rfl ?_
                    exact tok_post_err HT.out HFIN.out (((HX.out.trans hx1).trans hx2).alloc _)
                  | ok k n v =>
                    have hnr := (tok1_len ht)
                    rw [List.length_cons, List.length_drop, list_size] at hnr
                    have hn0 : 0 < n := hnr.1
                    have hnz : a + n ≤ s.size := by omega
                    have HRO := Lib.hid (fun X e W' (hp : TPost (tok1 (b :: s.data.toList.drop (a + 1))) (s.extract a s.size) X e W') => tpost_okk ht (el.trans HLL.out) hp)
                    have HFIN := Lib.hid (HOK.out k n v ht)
                    clear hbk HLX HLL h35 hlo el HER HOK ht hnr hdi h64
                    go_upto_region 23 with (first | (go_at_call 63; refine (HC.out _).mono ?_; rintro e w1 ⟨rfl, hx1⟩) | (go_at_call 66; refine (HLE.out _).mono ?_; rintro e w2 ⟨rfl, rfl⟩) | (go_at_call 68; refine (HDI.out _).mono ?_; rintro e w2 ⟨rfl, rfl⟩) | (go_at_call 70; refine (HRD.out _ ?_).mono ?_; exact HX.out.trans hx1; intro e' w2 hp; obtain ⟨S, hSn, HS, rfl, hx2⟩ := HRO.out _ _ _ hp; clear hp))
                    have hxx := hx1.trans hx2
                    have hown := own_new (HO.out.ext hxx) (Nat.le_refl _)
                    obtain ⟨A5, c5, w5, hrun, ho5, hb5, hk5⟩ := ap23_one (w2.alloc (.cells #[.int .i64 k, .int .i64 a, .string S, .int .i64 v] 46)) ((HO.out.ext hxx).ext ((Ext.refl _).alloc _)) k a v S (S.data.toList) rfl (w2.heap.size + 1) (by simp) (by omega) (by simp; exact Nat.le_trans HX.out.lt (Nat.le_trans hxx.lt (Nat.le_succ _)))
                    have hk6 := hk5 w2.heap.size (by simp) hown
                    have hc2 : w5.cell? ⟨w2.heap.size, 2, none⟩ = some (.string S) := by
                      rw [cell_of_row w5 w2.heap.size _ _ 46 (0, 0) (hk6.trans (heap_alloc_new w2 _))]; rfl
                    have HO5 := Lib.hid ho5
                    have HB5 := Lib.hid hb5
                    have HXX := Lib.hid hxx
                    clear ho5 hb5 hk5 hk6 hown hx1 hx2 hxx
                    have han : (a : Int) + (n : Int) ≤ 4000 := by omega
                    go_wp2_with (first | (at_builtin; refine wpList_append_run (s := .tmp 58) (x := .tmp 60) hrun rfl rfl rfl rfl rfl ?_))
                    refine ⟨⟨a + n, A5, c5, pre ++ [⟨k, a, S.data.toList, v⟩], by rw [list_size]; omega, by simp, by rw [List.length_append]; rfl, HO5.out, ?_, by rw [List.length_append, List.length_singleton]; omega, ?_⟩, by simp [tokM]; omega⟩
                    · exact Below.trans ((HX.out.trans HXX.out).alloc _) HB5.out
                    · rw [HS.out]; exact HFIN.out
                · have h64' : ((b.toNat : Int) == 64) = false := by
                    rw [beq_eq_false_iff_ne]; intro e; exact h64 (UInt8.toNat_inj.1 (by have : (64 : UInt8).toNat = 64 := rfl; omega))
                  have HRD := Lib.hid (fun X => sym_any (s.extract a s.size) X (by rw [ByteArray.size_extract]; omega) hsz0)
                  rw [show symT (s.extract a s.size).data.toList = tok1 (b :: s.data.toList.drop (a + 1)) by rw [el, HLL.out, tok1_sym hlo hdi h64]] at HRD
                  cases ht : tok1 (b :: s.data.toList.drop (a + 1)) with
                  | err e =>
                    rw [ht] at HRD
                    have HFIN := Lib.hid (HER.out e ht)
                    have hne : (e == 0) = false := by simpa using tok1_err_ne ht
                    clear hbk HLX HLL h35 hlo el HER HOK ht hdi h64
                    go_wp2_with (first | (go_at_call 63; refine (HC.out _).mono ?_; rintro e w1 ⟨rfl, hx1⟩) | (go_at_call 66; refine (HLE.out _).mono ?_; rintro e w2 ⟨rfl, rfl⟩) | (go_at_call 68; refine (HDI.out _).mono ?_; rintro e w2 ⟨rfl, rfl⟩) | (go_at_call 62; refine (HRD.out _).mono ?_; rintro e' w2 ⟨rfl, hx2⟩))
                    rw [Exit.noGoto_ret]
                    refine bodyPost_ret (v := .tuple #[.slice none 0 0, .int .i64 a, .int .i64 e]) (by simp [results, Tryz.results28, go_sem]) rfl ?_
                    exact tok_post_err HT.out HFIN.out (((HX.out.trans hx1).trans hx2).alloc _)
                  | ok k n v =>
                    have hnr := (tok1_len ht)
                    rw [List.length_cons, List.length_drop, list_size] at hnr
                    have hn0 : 0 < n := hnr.1
                    have hnz : a + n ≤ s.size := by omega
                    have HRO := Lib.hid (fun X e W' (hp : TPost (tok1 (b :: s.data.toList.drop (a + 1))) (s.extract a s.size) X e W') => tpost_okk ht (el.trans HLL.out) hp)
                    have HFIN := Lib.hid (HOK.out k n v ht)
                    clear hbk HLX HLL h35 hlo el HER HOK ht hnr hdi h64
                    go_upto_region 23 with (first | (go_at_call 63; refine (HC.out _).mono ?_; rintro e w1 ⟨rfl, hx1⟩) | (go_at_call 66; refine (HLE.out _).mono ?_; rintro e w2 ⟨rfl, rfl⟩) | (go_at_call 68; refine (HDI.out _).mono ?_; rintro e w2 ⟨rfl, rfl⟩) | (go_at_call 62; refine (HRD.out _).mono ?_; intro e' w2 hp; obtain ⟨S, hSn, HS, rfl, hx2⟩ := HRO.out _ _ _ hp; clear hp))
                    have hxx := hx1.trans hx2
                    have hown := own_new (HO.out.ext hxx) (Nat.le_refl _)
                    obtain ⟨A5, c5, w5, hrun, ho5, hb5, hk5⟩ := ap23_one (w2.alloc (.cells #[.int .i64 k, .int .i64 a, .string S, .int .i64 v] 46)) ((HO.out.ext hxx).ext ((Ext.refl _).alloc _)) k a v S (S.data.toList) rfl (w2.heap.size + 1) (by simp) (by omega) (by simp; exact Nat.le_trans HX.out.lt (Nat.le_trans hxx.lt (Nat.le_succ _)))
                    have hk6 := hk5 w2.heap.size (by simp) hown
                    have hc2 : w5.cell? ⟨w2.heap.size, 2, none⟩ = some (.string S) := by
                      rw [cell_of_row w5 w2.heap.size _ _ 46 (0, 0) (hk6.trans (heap_alloc_new w2 _))]; rfl
                    have HO5 := Lib.hid ho5
                    have HB5 := Lib.hid hb5
                    have HXX := Lib.hid hxx
                    clear ho5 hb5 hk5 hk6 hown hx1 hx2 hxx
                    have han : (a : Int) + (n : Int) ≤ 4000 := by omega
                    go_wp2_with (first | (at_builtin; refine wpList_append_run (s := .tmp 58) (x := .tmp 60) hrun rfl rfl rfl rfl rfl ?_))
                    refine ⟨⟨a + n, A5, c5, pre ++ [⟨k, a, S.data.toList, v⟩], by rw [list_size]; omega, by simp, by rw [List.length_append]; rfl, HO5.out, ?_, by rw [List.length_append, List.length_singleton]; omega, ?_⟩, by simp [tokM]; omega⟩
                    · exact Below.trans ((HX.out.trans HXX.out).alloc _) HB5.out
                    · rw [HS.out]; exact HFIN.out
      · obtain rfl : a = s.size := by omega
        have HFIN := Lib.hid (show lexW 0 s.data.toList = ⟨pre ++ [⟨0, (s.size : Nat), [], 0⟩], 0, 0⟩ by
          rw [HLX.out, drop_end s s.size (by omega), lex_end rfl, putAll_ok rfl]; rfl)
        clear HLX hal
        obtain ⟨A5, c5, w5, hrun, ho5, hb5, _⟩ := ap23_one wr HO.out 0 s.size 0 ⟨#[]⟩ [] rfl wr.heap.size rfl (by omega) HX.out.lt
        have HO5 := Lib.hid ho5
        have HB5 := Lib.hid hb5
        clear ho5 hb5
        have hni : ¬ ((s.size : Int) < (s.size : Int)) := by omega
        go_wp2_with (first | (at_builtin; refine wpList_append_run (s := .tmp 67) (x := .tmp 70) hrun rfl rfl rfl rfl rfl ?_))
        refine bodyPost_ret (v := .tuple #[.slice A5 (pre.length + 1) c5, .int .i64 0, .int .i64 0]) (by simp [results, Tryz.results28, go_sem]) rfl ?_
        obtain ⟨A9, c9, e9, hc9, hs9⟩ := OL.form tcf_len HO5.out
        injection e9 with e1 e2 e3
        subst e1 e3
        rw [HT.out, HFIN.out]
        rw [List.length_append] at hs9 hc9
        exact ⟨A5, c5, by rw [List.length_append]; rfl, by rw [List.length_append]; exact hs9, Below.trans HX.out HB5.out, by rw [List.length_append]; exact hc9⟩
end Go.Proofs.YtnpenepdechkjaaGreatDoor
