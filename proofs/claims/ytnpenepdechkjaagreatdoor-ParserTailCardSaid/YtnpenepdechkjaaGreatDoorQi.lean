/- The parser's errors have codes; the law of two sources. -/
import Derived.Test.YtnpenepdechkjaaGreatDoorMj
namespace Go.Proofs.YtnpenepdechkjaaGreatDoor
open Go

theorem PR.bad_inv {α β : Type} {x : PR α} {f : α → List Tk → PR β} {r : List Tk} {e : Int} (h : x.bind f = .bad r e) : x = .bad r e ∨ ∃ a r1, x = .ok a r1 ∧ f a r1 = .bad r e := by
  cases x with
  | ok a r1 => exact .inr ⟨a, r1, rfl, h⟩
  | bad r1 e1 =>
    rw [PR.bind_bad] at h
    injection h with h1 h2
    exact .inl (by rw [h1, h2])
theorem must_nz {s : List UInt8} {r r1 : List Tk} {e : Int} (h : mustP s r = .bad r1 e) : e ≠ 0 := by
  unfold mustP at h
  split at h
  · cases h
  · injection h with _ h; rw [← h]; decide
theorem opens_nz {s : List UInt8} {o : Nat} {r r1 : List Tk} {e : Int} (h : opensP s o r = .bad r1 e) : e ≠ 0 := by
  unfold opensP at h
  split at h
  · split at h
    · injection h with _ h; rw [← h]; decide
    · cases h
  · injection h with _ h; rw [← h]; decide
theorem tok_nz {k : Int} {r r1 : List Tk} {e : Int} (h : tokP k r = .bad r1 e) : e ≠ 0 := by
  unfold tokP at h
  split at h
  · cases h
  · injection h with _ h; rw [← h]; decide
theorem name_nz {r r1 : List Tk} {e : Int} (h : nameP r = .bad r1 e) : e ≠ 0 := by
  unfold nameP at h
  split at h
  · injection h with _ h; rw [← h]; decide
  · rcases PR.bad_inv h with h | ⟨_, _, _, h⟩
    · exact tok_nz h
    · cases h
section
variable {E : Nat → Nat → List Tk → PR Tr} {n : Nat} (hS : ∀ lv o r t r', 1 ≤ lv → E lv o r = .ok t r' → tsz t + r'.length ≤ r.length) (h1 : ∀ o r r' e, r.length + 1 ≤ n → E 1 o r = .bad r' e → e ≠ 0)
include hS h1
theorem call_nz {o : Nat} {r r' : List Tk} {e : Int} (hn : r.length ≤ n) (h : callP E o r = .bad r' e) : e ≠ 0 := by
  unfold callP at h
  rcases PR.bad_inv h with h | ⟨t, r1, g1, h⟩
  · exact tok_nz h
  have s1 := tok_sz (by decide) g1
  rcases PR.bad_inv h with h | ⟨_, r2, g2, h⟩
  · exact opens_nz h
  have s2 := opens_sz (by decide) g2
  rcases PR.bad_inv h with h | ⟨a, r3, g3, h⟩
  · exact h1 _ _ _ _ (by omega) h
  have s3 := hS _ _ _ _ _ (Nat.le_refl _) g3
  split at h
  · rcases PR.bad_inv h with h | ⟨_, r4, g4, h⟩
    · exact must_nz h
    · cases h
  · rcases PR.bad_inv h with h | ⟨_, r4, g4, h⟩
    · exact must_nz h
    have s4 := must_sz (by decide) g4
    rcases PR.bad_inv h with h | ⟨b, r5, g5, h⟩
    · exact h1 _ _ _ _ (by omega) h
    rcases PR.bad_inv h with h | ⟨_, r6, g6, h⟩
    · exact must_nz h
    · cases h
theorem choice_nz {o : Nat} {r r' : List Tk} {e : Int} (hn : r.length ≤ n) (h : choiceP E o r = .bad r' e) : e ≠ 0 := by
  unfold choiceP at h
  rcases PR.bad_inv h with h | ⟨_, r1, g1, h⟩
  · exact opens_nz h
  have s1 := opens_sz (by decide) g1
  rcases PR.bad_inv h with h | ⟨a, r2, g2, h⟩
  · exact h1 _ _ _ _ (by omega) h
  have s2 := hS _ _ _ _ _ (Nat.le_refl _) g2
  rcases PR.bad_inv h with h | ⟨_, r3, g3, h⟩
  · exact must_nz h
  have s3 := must_sz (by decide) g3
  rcases PR.bad_inv h with h | ⟨b, r4, g4, h⟩
  · exact h1 _ _ _ _ (by omega) h
  have s4 := hS _ _ _ _ _ (Nat.le_refl _) g4
  rcases PR.bad_inv h with h | ⟨_, r5, g5, h⟩
  · exact must_nz h
  have s5 := must_sz (by decide) g5
  rcases PR.bad_inv h with h | ⟨c, r6, g6, h⟩
  · exact h1 _ _ _ _ (by omega) h
  rcases PR.bad_inv h with h | ⟨_, r7, g7, h⟩
  · exact must_nz h
  · cases h
theorem prim_nz {o : Nat} {r r' : List Tk} {e : Int} (hn : r.length ≤ n) (h : primP E o r = .bad r' e) : e ≠ 0 := by
  unfold primP at h
  split at h
  · cases h
  split at h
  · cases h
  split at h
  · cases h
  split at h
  · cases h
  split at h
  · rcases PR.bad_inv h with h | ⟨_, r1, g1, h⟩
    · exact opens_nz h
    have s1 := opens_sz (by decide) g1
    rcases PR.bad_inv h with h | ⟨a, r2, g2, h⟩
    · exact h1 _ _ _ _ (by omega) h
    rcases PR.bad_inv h with h | ⟨_, r3, g3, h⟩
    · exact must_nz h
    · cases h
  split at h
  · exact choice_nz hS h1 hn h
  split at h
  · exact call_nz hS h1 hn h
  split at h
  · cases h
  · injection h with _ h; rw [← h]; decide
end
theorem loop_nz {E : Nat → Nat → List Tk → PR Tr} {lv o : Nat} (hlv : 1 ≤ lv) (hS : ∀ r t r', E (lv + 1) o r = .ok t r' → tsz t + r'.length ≤ r.length) : ∀ (g : Nat) (t : Tr) (r r' : List Tk) (e : Int) (n : Nat), r.length ≤ n → (∀ r r' e, r.length + 1 ≤ n → E (lv + 1) o r = .bad r' e → e ≠ 0) → loopP E lv o g t r = .bad r' e → e ≠ 0
  | 0, t, r, r', e, n, hn, hE, h => by rw [loopP] at h; cases h
  | g + 1, t, r, r', e, n, hn, hE, h => by
    rw [loopP] at h
    split at h
    · rename_i hc
      have h5 := tail_lt (r := r) (fun e => by
        rw [e] at hc
        have : lvOf tkE.tx = 0 := by decide
        omega)
      rcases PR.bad_inv h with h | ⟨b, r2, g2, h⟩
      · exact hE _ _ _ (by omega) h
      have s2 := hS _ _ _ g2
      have h6 := join_sz lv (hd r).tx t b r2
      split at h
      · cases h
      · exact loop_nz hlv hS g _ _ _ _ n (by omega) hE h
    · cases h
theorem expr_nz : ∀ (f lv o : Nat) (r r' : List Tk) (e : Int), 1 ≤ lv → lv ≤ 8 → 9 * r.length + (8 - lv) < f → exprP f lv o r = .bad r' e → e ≠ 0
  | 0, _, _, _, _, _, _, _, h, _ => by omega
  | f + 1, lv, o, r, r', e, h1, h8, hf, h => by
    rw [exprP, stepP] at h
    split at h
    · rename_i hc
      rcases PR.bad_inv h with h | ⟨_, r1, g1, h⟩
      · exact opens_nz h
      have s1 := opens_sz (by rcases hc with ⟨_, hc⟩ | ⟨_, hc⟩ <;> rw [hc] <;> decide) g1
      rcases PR.bad_inv h with h | ⟨n, r2, g2, h⟩
      · exact expr_nz f _ _ _ _ _ h1 h8 (by omega) h
      · cases h
    split at h
    · exact prim_nz (n := r.length) (fun lv o r t r' hl h => expr_sz f lv o r t r' hl h) (fun o r2 r' e hr h => expr_nz f 1 o r2 r' e (Nat.le_refl _) (by omega) (by omega) h) (Nat.le_refl _) h
    · rename_i hc8
      rcases PR.bad_inv h with h | ⟨n, r2, g2, h⟩
      · exact expr_nz f _ _ _ _ _ (by omega) (by omega) (by omega) h
      have s2 := expr_sz f _ _ _ _ _ (by omega) g2
      exact loop_nz h1 (fun r t r' h => expr_sz f (lv + 1) o r t r' (by omega) h) _ _ _ _ _ r.length (by omega) (fun r3 r' e hr h => expr_nz f (lv + 1) o r3 r' e (by omega) (by omega) (by omega) h) h
theorem rule_nz {E : List Tk → PR Tr} (hS : ∀ r t r', E r = .ok t r' → tsz t + r'.length ≤ r.length) {n : Nat} (hE : ∀ r r' e, r.length ≤ n → E r = .bad r' e → e ≠ 0) {r r' : List Tk} {e : Int} (hn : r.length ≤ n) (h : ruleP E r = .bad r' e) : e ≠ 0 := by
  have hle : ∀ {w : List UInt8} {r r1 : List Tk} {u : Unit}, mustP w r = .ok u r1 → r1.length ≤ r.length := fun {w r r1 u} h => by
    unfold mustP at h
    split at h
    · obtain ⟨_, rfl⟩ := PR.ok_inj h; simp
    · cases h
  have hnm : ∀ {r r1 : List Tk} {u : List UInt8}, nameP r = .ok u r1 → r1.length ≤ r.length := fun {r r1 u} h => by
    unfold nameP at h
    split at h
    · cases h
    · obtain ⟨t, r2, h1, h2⟩ := PR.bind_inv h
      have := tok_sz (by decide) h1
      obtain ⟨_, rfl⟩ := PR.ok_inj h2
      omega
  have hpn : ∀ {w : List UInt8} {r r1 : List Tk} {e : Int}, partP w [] nameP r = .bad r1 e → e ≠ 0 := fun {w r r1 e} h => by
    unfold partP at h
    split at h
    · rcases PR.bad_inv h with h | ⟨_, _, _, h⟩
      · exact name_nz h
      rcases PR.bad_inv h with h | ⟨_, _, _, h⟩
      · exact must_nz h
      · cases h
    · cases h
  have hpe : ∀ {w : List UInt8} {r r1 : List Tk} {e : Int}, r.length ≤ n → partP w trTrue E r = .bad r1 e → e ≠ 0 := fun {w r r1 e} hn h => by
    unfold partP at h
    split at h
    · rcases PR.bad_inv h with h | ⟨_, _, _, h⟩
      · exact hE _ _ _ (by simp; omega) h
      rcases PR.bad_inv h with h | ⟨_, _, _, h⟩
      · exact must_nz h
      · cases h
    · cases h
  have hpl : ∀ {w : List UInt8} {r r1 : List Tk} {u : Tr}, partP w trTrue E r = .ok u r1 → r1.length ≤ r.length := fun {w r r1 u} h => by
    unfold partP at h
    split at h
    · obtain ⟨a, r2, h1, h2⟩ := PR.bind_inv h
      obtain ⟨_, r3, h3, h4⟩ := PR.bind_inv h2
      have := hS _ _ _ h1
      have := hle h3
      obtain ⟨rfl, rfl⟩ := PR.ok_inj h4
      simp only [List.length_tail] at *; omega
    · obtain ⟨rfl, rfl⟩ := PR.ok_inj h
      exact Nat.le_refl _
  unfold ruleP at h
  rcases PR.bad_inv h with h | ⟨_, r1, g1, h⟩
  · exact must_nz h
  rcases PR.bad_inv h with h | ⟨_, r2, g2, h⟩
  · exact name_nz h
  rcases PR.bad_inv h with h | ⟨_, r3, g3, h⟩
  · exact must_nz h
  rcases PR.bad_inv h with h | ⟨_, r4, g4, h⟩
  · exact tok_nz h
  rcases PR.bad_inv h with h | ⟨_, r5, g5, h⟩
  · exact must_nz h
  rcases PR.bad_inv h with h | ⟨_, r6, g6, h⟩
  · exact must_nz h
  rcases PR.bad_inv h with h | ⟨_, r7, g7, h⟩
  · exact name_nz h
  rcases PR.bad_inv h with h | ⟨_, r8, g8, h⟩
  · exact must_nz h
  have s1 := hle g1
  have s2 := hnm g2
  have s3 := hle g3
  have s4 := tok_sz (by decide) g4
  have s5 := hle g5
  have s6 := hle g6
  have s7 := hnm g7
  have s8 := hle g8
  rcases PR.bad_inv h with h | ⟨_, r9, g9, h⟩
  · exact hpe (by omega) h
  have s9 := hpl g9
  rcases PR.bad_inv h with h | ⟨_, r10, g10, h⟩
  · exact must_nz h
  have s10 := hle g10
  rcases PR.bad_inv h with h | ⟨_, r11, g11, h⟩
  · exact hE _ _ _ (by omega) h
  rcases PR.bad_inv h with h | ⟨_, r12, g12, h⟩
  · exact must_nz h
  rcases PR.bad_inv h with h | ⟨_, r13, g13, h⟩
  · exact hpn h
  rcases PR.bad_inv h with h | ⟨_, r14, g14, h⟩
  · exact hpn h
  rcases PR.bad_inv h with h | ⟨_, r15, g15, h⟩
  · exact must_nz h
  · cases h
theorem rules_nz {E : List Tk → PR Tr} (hS : ∀ r t r', E r = .ok t r' → tsz t + r'.length ≤ r.length) {n : Nat} (hE : ∀ r r' e, r.length ≤ n → E r = .bad r' e → e ≠ 0) : ∀ (g : Nat) (l : List Rl) (r r' : List Tk) (e : Int), r.length ≤ n → rulesP E g l r = .bad r' e → e ≠ 0
  | 0, l, r, r', e, _, h => by rw [rulesP] at h; cases h
  | g + 1, l, r, r', e, hn, h => by
    rw [rulesP] at h
    split at h
    · cases h
    · rcases PR.bad_inv h with h | ⟨x, r2, h1, h⟩
      · exact rule_nz hS hE hn h
      · have := (rule_sz hS h1).2.2
        exact rules_nz hS hE g _ _ _ _ (by omega) h
theorem EX_nz (r r' : List Tk) (e : Int) (hr : r.length ≤ 4400) (h : EX r = .bad r' e) : e ≠ 0 := expr_nz 40000 1 0 r r' e (Nat.le_refl _) (by omega) (by omega) h
/-- A source that is parsed. -/
theorem parseR_ok {s : List UInt8} (h : (parseR s).2.2 = 0) : (lexT s).e = 0 ∧ ∃ v r, RP EX [] (lexT s).l = .ok v r ∧ (hd r).kd = 0 ∧ parseR s = (v, 0, 0) := by
  unfold parseR parseG at h ⊢
  by_cases he : (lexT s).e = 0
  · rw [if_pos he] at h ⊢
    refine ⟨he, ?_⟩
    obtain ⟨_, h2, _⟩ := lexT_ok he
    cases hr : RP EX [] (lexT s).l with
    | bad r e =>
      rw [hr] at h
      exact absurd h (rules_nz EX_sz (n := 4400) EX_nz _ _ _ _ _ (by omega) hr)
    | ok v r =>
      rw [hr] at h
      simp only at h ⊢
      by_cases hk : (hd r).kd = 0
      · exact ⟨v, r, rfl, hk, by rw [if_pos hk]⟩
      · rw [if_neg hk] at h; simp at h
  · rw [if_neg he] at h
    exact absurd h he
/-- Rules behind rules. -/
theorem RP_cat : ∀ (m : Nat) (acc : List Rl) (ts : List Tk) (k : Nat) (v : List Rl) (r : List Tk), ts.length ≤ m → (∀ t ∈ ts, NE t ∧ t.kd ≠ 0) → RP EX acc (ts ++ [endT k]) = .ok v r → (hd r).kd = 0 →
    ∀ (ts' tb : List Tk), ts'.map tri = ts.map tri → RP EX acc (ts' ++ tb) = RP EX v tb := by
  intro m
  induction m with
  | zero =>
    intro acc ts k v r hm hts h hk ts' tb hmap
    obtain rfl : ts = [] := List.length_eq_zero_iff.1 (by omega)
    rw [map_nil hmap, List.nil_append]
    rw [List.nil_append, RP_eq loc_EX, if_pos (show (hd [endT k]).kd = 0 from rfl)] at h
    obtain ⟨rfl, _⟩ := PR.ok_inj h
    rfl
  | succ m ih =>
    intro acc ts k v r hm hts h hk ts' tb hmap
    cases ts with
    | nil =>
      rw [map_nil hmap, List.nil_append]
      rw [List.nil_append, RP_eq loc_EX, if_pos (show (hd [endT k]).kd = 0 from rfl)] at h
      obtain ⟨rfl, _⟩ := PR.ok_inj h
      rfl
    | cons t0 ts0 =>
      have hk0 : t0.kd ≠ 0 := (hts t0 (List.mem_cons_self ..)).2
      rw [RP_eq loc_EX, if_neg (show ¬ (hd (t0 :: ts0 ++ [endT k])).kd = 0 from hk0)] at h
      obtain ⟨x, r2, h1, h2⟩ := PR.bind_inv h
      obtain ⟨pre, p1, p2, p3, p4⟩ := locS_rule (m := (t0 :: ts0 ++ [endT k]).length) loc_EX _ _ _ (Nat.le_refl _) h1
      -- what has been read lies within ts
      have hpre : ∃ s, t0 :: ts0 = pre ++ s ∧ r2 = s ++ [endT k] := by
        rcases List.append_eq_append_iff.1 p1 with ⟨a, ha, hb⟩ | ⟨c, hc, hd⟩
        · cases a with
          | nil => exact ⟨[], by simpa using ha.symm, by simpa using hb.symm⟩
          | cons a0 a1 =>
            exfalso
            have : a0 = endT k := by
              have := congrArg List.head? hb
              simpa using this.symm
            have hm : endT k ∈ pre := by rw [ha, ← this]; simp
            rcases p3 _ hm with h9 | h9
            · exact h9 rfl
            · exact h9 rfl
        · exact ⟨c, hc, hd⟩
      obtain ⟨s, hs1, hs2⟩ := hpre
      have hlen := congrArg List.length hs1
      rw [List.length_append] at hlen
      have hpl := List.length_pos_iff.2 p2
      rw [hs1, List.map_append] at hmap
      obtain ⟨y, z, rfl, hy, hz⟩ := List.map_eq_append_iff.1 hmap
      have hne : (hd (y ++ z ++ tb)).kd ≠ 0 := by
        cases y with
        | nil =>
          exfalso
          have : pre = [] := by simpa using hy.symm
          exact p2 this
        | cons y0 y1 =>
          cases pre with
          | nil => exact absurd rfl p2
          | cons q0 q1 =>
            simp only [List.map_cons, List.cons.injEq] at hy
            simp only [List.cons_append, List.cons.injEq] at hs1
            have e1 : y0.kd = q0.kd := congrArg (fun x => x.1) hy.1
            show y0.kd ≠ 0
            rw [e1, ← hs1.1]; exact hk0
      rw [RP_eq loc_EX, if_neg hne, List.append_assoc, p4 y (z ++ tb) hy, PR.bind_ok]
      rw [hs2] at h2
      exact ih (acc ++ [x]) s k v r (by simp only [List.length_cons] at hm hlen; omega) (fun t ht => hts t (by rw [hs1]; exact List.mem_append.2 (.inr ht))) h2 hk z tb hz
/-- The accumulator goes ahead. -/
theorem rules_acc (E : List Tk → PR Tr) : ∀ (g : Nat) (l : List Rl) (r : List Tk) (v : List Rl) (r' : List Tk), rulesP E g [] r = .ok v r' → rulesP E g l r = .ok (l ++ v) r'
  | 0, l, r, v, r', h => by
    rw [rulesP] at h ⊢
    obtain ⟨rfl, rfl⟩ := PR.ok_inj h
    rw [List.append_nil]
  | g + 1, l, r, v, r', h => by
    rw [rulesP] at h ⊢
    split at h
    · rename_i hk
      rw [if_pos hk]
      obtain ⟨rfl, rfl⟩ := PR.ok_inj h
      rw [List.append_nil]
    · rename_i hk
      rw [if_neg hk]
      obtain ⟨x, r2, h1, h2⟩ := PR.bind_inv h
      rw [h1, PR.bind_ok]
      have key : ∀ (g : Nat) (a b : List Rl) (r : List Tk) (v : List Rl) (r' : List Tk), rulesP E g b r = .ok v r' → rulesP E g (a ++ b) r = .ok (a ++ v) r' := by
        intro g
        induction g with
        | zero =>
          intro a b r v r' h
          rw [rulesP] at h ⊢
          obtain ⟨rfl, rfl⟩ := PR.ok_inj h
          rfl
        | succ g ih =>
          intro a b r v r' h
          rw [rulesP] at h ⊢
          split at h
          · rename_i hk
            rw [if_pos hk]
            obtain ⟨rfl, rfl⟩ := PR.ok_inj h
            rfl
          · rename_i hk
            rw [if_neg hk]
            obtain ⟨x, r2, h1, h2⟩ := PR.bind_inv h
            rw [h1, PR.bind_ok, List.append_assoc]
            exact ih a (b ++ [x]) r2 v r' h2
      exact key g l ([] ++ [x]) r2 v r' h2
/-- The law of two sources. -/
theorem concat_R {a b : List UInt8} (ha : (parseR a).2.2 = 0) (hb : (parseR b).2.2 = 0) (hl : a.length + b.length + 1 ≤ 4000) : (parseR (a ++ 10 :: b)).2.2 = 0 ∧ (parseR (a ++ 10 :: b)).1 = (parseR a).1 ++ (parseR b).1 := by
  obtain ⟨ea, va, ra, hra, hka, hpa⟩ := parseR_ok ha
  obtain ⟨eb, vb, rb, hrb, hkb, hpb⟩ := parseR_ok hb
  obtain ⟨_, _, _, _, la, _⟩ := lexT_ok ea
  obtain ⟨_, _, _, _, lb, _⟩ := lexT_ok eb
  rw [la] at ea hra
  rw [lb] at eb hrb
  have lz : lexT (a ++ 10 :: b) = lexW 0 (a ++ 10 :: b) := by rw [lexT, if_neg (by simp; omega)]
  obtain ⟨ez, l, hl1, hl2⟩ := (concat_law a b).2 ea eb
  obtain ⟨_, ts, ht1, ht2⟩ := lex_toks a.length a (Nat.le_refl _) 0 ea
  have hlts : l = ts := by
    rw [hl1] at ht1
    exact (List.append_inj' ht1 rfl).1
  subst hlts
  rw [hl1] at hra
  rw [List.map_append] at hl2
  obtain ⟨x, y, hxy, hx, hy⟩ := List.map_eq_append_iff.1 hl2
  have h1 := RP_cat l.length [] l a.length va ra (Nat.le_refl _) (fun t ht => ⟨.inr (ht2 t ht).2.1, (ht2 t ht).2.1⟩) hra hka x y hx
  obtain ⟨r', h2, h3⟩ := loc_RP [] hy
  rw [hrb] at h2 h3
  have h4 : RP EX va y = .ok (va ++ vb) r' := rules_acc EX y.length va y vb r' h2
  have hk' : (hd r').kd = 0 := by
    have h3' : r'.map tri = rb.map tri := h3
    cases rb with
    | nil =>
      have : r' = [] := by simpa using h3'
      rw [this]; rfl
    | cons p q =>
      cases r' with
      | nil => rfl
      | cons p' q' =>
        simp only [List.map_cons, List.cons.injEq] at h3'
        have e1 : p'.kd = p.kd := congrArg (fun x => x.1) h3'.1
        show p'.kd = 0
        rw [e1]; exact hkb
  have h5 : parseR (a ++ 10 :: b) = (va ++ vb, 0, 0) := by
    unfold parseR parseG
    rw [lz, if_pos ez, hxy, h1, h4]
    simp only
    rw [if_pos hk']
  rw [h5, hpa, hpb]
  exact ⟨rfl, rfl⟩
end Go.Proofs.YtnpenepdechkjaaGreatDoor
