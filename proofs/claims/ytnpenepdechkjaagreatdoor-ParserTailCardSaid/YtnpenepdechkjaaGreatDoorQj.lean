/- The law of the tail, in plain Lean: what stands behind the token of an error does not matter. -/
import Derived.Test.YtnpenepdechkjaaGreatDoorQi
import Derived.Test.YtnpenepdechkjaaGreatDoorMg
namespace Go.Proofs.YtnpenepdechkjaaGreatDoor
open Go

/-- The source up to the end of a token has the tokens up to this one. -/
theorem lex_prefix : ∀ (m : Nat) (s : List UInt8), s.length ≤ m → ∀ k, (lexW k s).e = 0 → ∀ (j : Nat) (t : Tk), (lexW k s).l[j]? = some t → t.kd ≠ 0 →
    ∃ p : Nat, t.at_ = (k + p : Nat) ∧ p + t.tx.length ≤ s.length ∧ (s.drop p).take t.tx.length = t.tx ∧ (lexW k (s.take (p + t.tx.length))).e = 0 ∧ ∃ q, (lexW k (s.take (p + t.tx.length))).l = (lexW k s).l.take (j + 1) ++ [endT q] := by
  intro m
  induction m with
  | zero =>
    intro s hs k he j t ht hk
    obtain rfl : s = [] := List.length_eq_zero_iff.1 (by omega)
    rw [lex_end (k := k) (s := []) rfl] at ht
    cases j with
    | zero =>
      simp only [List.getElem?_cons_zero, Option.some.injEq] at ht
      subst ht
      exact absurd rfl hk
    | succ j => simp at ht
  | succ m ih =>
    intro s hs k he j t ht hk
    have hl := skipB_len false s
    rcases lex_cases k s with ⟨h0, h1⟩ | ⟨e, h0, htk, hne, h1⟩ | ⟨kd, n, v, h0, htk, hn, hnl, h1⟩
    · rw [h1] at ht
      cases j with
      | zero =>
        simp only [List.getElem?_cons_zero, Option.some.injEq] at ht
        subst ht
        exact absurd rfl hk
      | succ j => simp at ht
    · rw [h1] at he; exact absurd he hne
    · have hr := rest_lt h0 hn
      rw [h1, put_e] at he
      rw [h1, put_ok he] at ht ⊢
      have hd := skipB_drop false s
      cases j with
      | zero =>
        simp only [List.getElem?_cons_zero, Option.some.injEq] at ht
        subst ht
        have hlen : ((skipB false s).take n).length = n := by rw [List.length_take, Nat.min_eq_left hnl]
        simp only [hlen]
        have hsk := skipB_take false s n
        have hne : (skipB false s).take n ≠ [] := by
          intro e
          have := congrArg List.length e
          rw [hlen, List.length_nil] at this
          omega
        refine ⟨s.length - (skipB false s).length, rfl, by omega, by rw [hd], ?_, ?_⟩
        · rw [lex_ok (s := s.take (s.length - (skipB false s).length + n)) (by rw [hsk]; exact hne) (by rw [hsk]; exact tok1_take htk (Nat.le_refl _)) hn, put_e, hsk]
          rw [show ((skipB false s).take n).drop n = [] from by rw [List.drop_eq_nil_iff, hlen]; exact Nat.le_refl _, lex_end (s := []) rfl]
        · rw [lex_ok (s := s.take (s.length - (skipB false s).length + n)) (by rw [hsk]; exact hne) (by rw [hsk]; exact tok1_take htk (Nat.le_refl _)) hn, hsk]
          rw [show ((skipB false s).take n).drop n = [] from by rw [List.drop_eq_nil_iff, hlen]; exact Nat.le_refl _, lex_end (s := []) rfl, put_ok rfl]
          simp only [List.length_take, List.take_succ_cons, List.take_zero, List.cons_append, List.nil_append, List.take_take, Nat.min_self]
          rw [show k + (min (s.length - (skipB false s).length + n) s.length - min n (skipB false s).length) = k + (s.length - (skipB false s).length) by omega]
          exact ⟨_, rfl⟩
      | succ j =>
        simp only [List.getElem?_cons_succ] at ht
        obtain ⟨p, g1, g2, g3, g4, q, g5⟩ := ih ((skipB false s).drop n) (by omega) _ he j t ht hk
        rw [List.length_drop] at g2
        have hsk := skipB_take false s (n + (p + t.tx.length))
        have hne : (skipB false s).take (n + (p + t.tx.length)) ≠ [] := by
          intro e
          have := congrArg List.length e
          rw [List.length_take, List.length_nil, Nat.min_eq_left (by omega)] at this
          omega
        have hap : s.length - (skipB false s).length + n + p + t.tx.length = s.length - (skipB false s).length + (n + (p + t.tx.length)) := by omega
        have hstep : lexW k (s.take (s.length - (skipB false s).length + n + p + t.tx.length)) = (lexW (k + (s.length - (skipB false s).length) + n) (((skipB false s).drop n).take (p + t.tx.length))).put ⟨kd, (k + (s.length - (skipB false s).length) : Nat), (skipB false s).take n, v⟩ := by
          rw [hap, lex_ok (s := s.take (s.length - (skipB false s).length + (n + (p + t.tx.length)))) (by rw [hsk]; exact hne) (by rw [hsk]; exact tok1_take htk (by omega)) hn, hsk, List.drop_take, show n + (p + t.tx.length) - n = p + t.tx.length by omega]
          rw [List.take_take, Nat.min_eq_left (show n ≤ n + (p + t.tx.length) by omega), List.length_take, List.length_take]
          rw [show k + (min (s.length - (skipB false s).length + (n + (p + t.tx.length))) s.length - min (n + (p + t.tx.length)) (skipB false s).length) = k + (s.length - (skipB false s).length) by omega]
        refine ⟨s.length - (skipB false s).length + n + p, by rw [g1]; congr 1; omega, by omega, ?_, ?_, ?_⟩
        · have e9 : s.drop (s.length - (skipB false s).length + n + p) = ((s.drop (s.length - (skipB false s).length)).drop n).drop p := by rw [List.drop_drop, List.drop_drop, Nat.add_assoc]
          rw [e9, hd]
          exact g3
        · rw [hstep, put_e]; exact g4
        · rw [hstep, put_ok g4, g5]
          exact ⟨q, rfl⟩
/-- Tokens stand in order. -/
theorem lex_inc : ∀ (m : Nat) (s : List UInt8), s.length ≤ m → ∀ k, (lexW k s).e = 0 → ∀ (i j : Nat) (a b : Tk), (lexW k s).l[i]? = some a → (lexW k s).l[j]? = some b → i < j → a.at_ < b.at_ := by
  intro m
  induction m with
  | zero =>
    intro s hs k he i j a b ha hb hij
    obtain rfl : s = [] := List.length_eq_zero_iff.1 (by omega)
    rw [lex_end (k := k) (s := []) rfl] at hb
    have := (List.getElem?_eq_some_iff.1 hb).1
    simp at this
    omega
  | succ m ih =>
    intro s hs k he i j a b ha hb hij
    rcases lex_cases k s with ⟨h0, h1⟩ | ⟨e, h0, htk, hne, h1⟩ | ⟨kd, n, v, h0, htk, hn, hnl, h1⟩
    · rw [h1] at hb
      have := (List.getElem?_eq_some_iff.1 hb).1
      simp at this
      omega
    · rw [h1] at he; exact absurd he hne
    · have hr := rest_lt h0 hn
      rw [h1, put_e] at he
      rw [h1, put_ok he] at ha hb
      cases j with
      | zero => omega
      | succ j =>
        simp only [List.getElem?_cons_succ] at hb
        cases i with
        | zero =>
          simp only [List.getElem?_cons_zero, Option.some.injEq] at ha
          subst ha
          obtain ⟨p, g1, g2, _⟩ := lex_at _ _ (Nat.le_refl _) _ b (List.mem_of_getElem? hb)
          rw [g1]
          show ((k + (s.length - (skipB false s).length) : Nat) : Int) < (p : Int)
          omega
        | succ i =>
          simp only [List.getElem?_cons_succ] at ha
          exact ih ((skipB false s).drop n) (by omega) _ he i j a b ha hb (by omega)
/-- The law of the tail. -/
theorem tail_R {s : List UInt8} {at_ e : Int} {v0 : List Rl} (hp : parseR s = (v0, at_, e)) (he : e ≠ 0) (hlx : (lexT s).e = 0) (hat : at_ < s.length) :
    ∃ (j : Nat) (t : Tk) (p : Nat), (lexT s).l[j]? = some t ∧ t.at_ = at_ ∧ t.kd ≠ 0 ∧ at_ = (p : Int) ∧ p + t.tx.length ≤ s.length ∧ (∀ (i : Nat) (t' : Tk), (lexT s).l[i]? = some t' → t'.at_ = at_ → i = j) ∧
      ∀ u : List UInt8, (lexT (s.take p ++ t.tx ++ 10 :: u)).e = 0 → (parseR (s.take p ++ t.tx ++ 10 :: u)).2 = (at_, e) := by
  obtain ⟨hwf, _, _, _, hT, _⟩ := lexT_ok hlx
  rw [hT] at hlx hwf ⊢
  unfold parseR parseG at hp
  rw [hT, if_pos hlx] at hp
  obtain ⟨_, ts, hl1, hl2⟩ := lex_toks s.length s (Nat.le_refl _) 0 hlx
  rw [Nat.zero_add] at hl1
  -- what the parser leaves
  obtain ⟨pre, hpre, hne, hloc⟩ := loc_rules loc_EX (lexW 0 s).l.length (lexW 0 s).l.length [] (lexW 0 s).l (Nat.le_refl _)
  obtain ⟨X, hX⟩ : ∃ X, X = rulesP EX (lexW 0 s).l.length [] (lexW 0 s).l := ⟨_, rfl⟩
  have hRP : RP EX [] (lexW 0 s).l = X := hX.symm
  rw [← hX] at hpre hloc
  rw [hRP] at hp
  -- the rest is not empty
  have hrs : X.rs ≠ [] := fun e9 => by
    rw [e9, List.append_nil] at hpre
    rcases hne (endT s.length) (by rw [← hpre, hl1]; simp) with h9 | h9
    · exact h9 rfl
    · exact h9 rfl
  obtain ⟨t0, r0, hr0⟩ := List.exists_cons_of_ne_nil hrs
  have hat0 : t0.at_ = at_ := by
    cases hx : X with
    | bad r e1 =>
      rw [hx] at hp hr0
      simp only [PR.rs] at hr0
      rw [hr0] at hp
      simp only [Prod.mk.injEq] at hp
      exact hp.2.1
    | ok v r =>
      rw [hx] at hp hr0
      simp only [PR.rs] at hr0
      rw [hr0] at hp
      simp only at hp
      split at hp
      · simp only [Prod.mk.injEq] at hp
        exact absurd hp.2.2.symm he
      · simp only [Prod.mk.injEq] at hp
        exact hp.2.1
  have hget : (lexW 0 s).l[pre.length]? = some t0 := by
    rw [hpre, hr0, List.getElem?_append_right (Nat.le_refl _), Nat.sub_self]; rfl
  have hk0 : t0.kd ≠ 0 := fun hk => by
    have hm := List.mem_of_getElem? hget
    rw [hl1] at hm
    rcases List.mem_append.1 hm with hm | hm
    · exact (hl2 t0 hm).2.1 hk
    · obtain rfl : t0 = endT s.length := by simpa using hm
      have h9 : (endT s.length).at_ = (s.length : Int) := rfl
      omega
  obtain ⟨p, g1, g2, g3, g4, q, g5⟩ := lex_prefix s.length s (Nat.le_refl _) 0 hlx pre.length t0 hget hk0
  rw [Nat.zero_add] at g1
  refine ⟨pre.length, t0, p, hget, hat0, hk0, by rw [← hat0, g1], g2, fun i t' hi hti => ?_, fun u hz => ?_⟩
  · rcases Nat.lt_trichotomy i pre.length with h | h | h
    · have := lex_inc s.length s (Nat.le_refl _) 0 hlx i pre.length t' t0 hi hget h
      omega
    · exact h
    · have := lex_inc s.length s (Nat.le_refl _) 0 hlx pre.length i t0 t' hget hi h
      omega
  · have hs1 : s.take p ++ t0.tx = s.take (p + t0.tx.length) := by
      rw [List.take_add, g3]
    rw [hs1] at hz ⊢
    obtain ⟨_, _, _, _, hTz, _⟩ := lexT_ok hz
    rw [hTz] at hz
    obtain ⟨l1, c1, c2⟩ := (lex_cat u (s.take (p + t0.tx.length)).length (s.take (p + t0.tx.length)) (Nat.le_refl _) 0).2 g4
    have hl1' : l1 = (lexW 0 s).l.take (pre.length + 1) := by
      rw [c1] at g5
      exact (List.append_inj' g5 rfl).1
    have hle : (lexW (0 + (s.take (p + t0.tx.length)).length + 1) u).e = 0 := by
      by_cases h9 : (lexW (0 + (s.take (p + t0.tx.length)).length + 1) u).e = 0
      · exact h9
      · rw [c2, putAll_err h9] at hz
        exact hz
    obtain ⟨lu, hlu⟩ : ∃ x, x = (lexW (0 + (s.take (p + t0.tx.length)).length + 1) u).l := ⟨_, rfl⟩
    have hz2 : lexW 0 (s.take (p + t0.tx.length) ++ 10 :: u) = ⟨pre ++ (t0 :: lu), (lexW (0 + (s.take (p + t0.tx.length)).length + 1) u).off, 0⟩ := by
      rw [c2, putAll_ok hle, hl1', ← hlu]
      congr 1
      rw [hpre, hr0, List.take_append, List.take_of_length_le (by omega), show pre.length + 1 - pre.length = 1 by omega]
      simp
    -- the same parse
    have hloc2 := hloc pre (t0 :: lu) rfl (by rw [hr0]; rfl)
    have hfu : RP EX [] (pre ++ (t0 :: lu)) = X.re (t0 :: lu) := by
      unfold RP
      rw [rules_fuel loc_EX _ ((pre ++ (t0 :: lu)).length + (lexW 0 s).l.length) [] _ (Nat.le_refl _) (by omega)]
      obtain ⟨pre2, hp2, _, hloc3⟩ := loc_rules loc_EX ((pre ++ (t0 :: lu)).length + (lexW 0 s).l.length) (lexW 0 s).l.length [] (lexW 0 s).l (Nat.le_refl _)
      rw [rules_fuel loc_EX ((pre ++ (t0 :: lu)).length + (lexW 0 s).l.length) (lexW 0 s).l.length [] _ (by omega) (Nat.le_refl _), ← hX] at hp2 hloc3
      have hpp : pre2 = pre := by
        have h9 := hpre
        rw [hp2] at h9
        exact List.append_cancel_right h9
      exact hloc3 pre (t0 :: lu) (by rw [hpp]) (by rw [hr0]; rfl)
    unfold parseR parseG
    rw [hTz, hz2]
    simp only [if_true]
    rw [hfu]
    cases hx : X with
    | bad r e1 =>
      rw [hx] at hp
      simp only [Prod.mk.injEq] at hp
      simp only [PR.re, Prod.mk.injEq]
      exact ⟨hat0, hp.2.2⟩
    | ok v r =>
      rw [hx] at hp hr0
      simp only [PR.rs] at hr0
      rw [hr0] at hp
      have e9 : (hd (t0 :: r0)).kd = t0.kd := rfl
      simp only [e9, if_neg hk0, Prod.mk.injEq] at hp
      have e8 : (hd (t0 :: lu)).kd = t0.kd := rfl
      simp only [PR.re, e8, if_neg hk0, Prod.mk.injEq]
      exact ⟨hat0, hp.2.2⟩
end Go.Proofs.YtnpenepdechkjaaGreatDoor
