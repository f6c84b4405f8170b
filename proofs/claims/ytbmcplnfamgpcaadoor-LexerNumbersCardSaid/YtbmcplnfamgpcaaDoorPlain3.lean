/- Plain law: the tokens of texts that are put together or cut off. -/
import Derived.Test.YtbmcplnfamgpcaaDoorPlain2
namespace Go.Proofs.YtbmcplnfamgpcaaDoor
open Go

def LexR.putAll (l : List Tk) (r : LexR) : LexR := l.foldr LexR.put r
theorem putAll_nil (r : LexR) : LexR.putAll [] r = r := rfl
theorem putAll_cons (t : Tk) (l : List Tk) (r : LexR) : LexR.putAll (t :: l) r = (LexR.putAll l r).put t := rfl
theorem put_ok {t : Tk} {r : LexR} (h : r.e = 0) : r.put t = ⟨t :: r.l, r.off, 0⟩ := by unfold LexR.put; rw [if_pos h]
theorem put_err {t : Tk} {r : LexR} (h : r.e ≠ 0) : r.put t = r := by unfold LexR.put; rw [if_neg h]
theorem put_e (t : Tk) (r : LexR) : (r.put t).e = r.e := by
  by_cases h : r.e = 0
  · rw [put_ok h, h]
  · rw [put_err h]
theorem putAll_ok {l : List Tk} {r : LexR} (h : r.e = 0) : LexR.putAll l r = ⟨l ++ r.l, r.off, 0⟩ := by
  induction l with
  | nil => rw [putAll_nil]; cases r; simp only at h; subst h; rfl
  | cons t l ih => rw [putAll_cons, ih, put_ok rfl]; rfl
theorem putAll_err {l : List Tk} {r : LexR} (h : r.e ≠ 0) : LexR.putAll l r = r := by
  induction l with
  | nil => rfl
  | cons t l ih => rw [putAll_cons, ih, put_err h]
def endT (k : Nat) : Tk := ⟨0, (k : Nat), [], 0⟩

/-- How the tokens of a text go on. -/
theorem lex_cases (k : Nat) (s : List UInt8) :
    (skipB false s = [] ∧ lexW k s = ⟨[endT (k + s.length)], 0, 0⟩) ∨
    (∃ e, skipB false s ≠ [] ∧ tok1 (skipB false s) = .err e ∧ e ≠ 0 ∧ lexW k s = ⟨[], (k + (s.length - (skipB false s).length) : Nat), e⟩) ∨
    (∃ kd n v, skipB false s ≠ [] ∧ tok1 (skipB false s) = .ok kd n v ∧ 0 < n ∧ n ≤ (skipB false s).length ∧
      lexW k s = (lexW (k + (s.length - (skipB false s).length) + n) ((skipB false s).drop n)).put ⟨kd, (k + (s.length - (skipB false s).length) : Nat), (skipB false s).take n, v⟩) := by
  by_cases h0 : skipB false s = []
  · exact .inl ⟨h0, lex_end h0⟩
  · cases ht : tok1 (skipB false s) with
    | err e => exact .inr (.inl ⟨e, h0, rfl, tok1_err_ne ht, lex_err h0 ht⟩)
    | ok kd n v => exact .inr (.inr ⟨kd, n, v, h0, rfl, (tok1_len ht).1, (tok1_len ht).2, lex_ok h0 ht (tok1_len ht).1⟩)
theorem rest_lt {s : List UInt8} {n : Nat} (h0 : skipB false s ≠ []) (hn : 0 < n) : ((skipB false s).drop n).length < s.length := by
  have h1 := skipB_len false s
  have h2 : 0 < (skipB false s).length := by
    cases hs : skipB false s with
    | nil => exact absurd hs h0
    | cons => simp
  rw [List.length_drop]; omega

/-! ### Two texts with a line feed between them -/
theorem sep10 (t : List UInt8) : SepHead (10 :: t) := fun c h => by
  obtain rfl : (10 : UInt8) = c := by simpa using h
  decide
theorem sep32 (t : List UInt8) : SepHead (32 :: t) := fun c h => by
  obtain rfl : (32 : UInt8) = c := by simpa using h
  decide
theorem skip10 (cm : Bool) (t : List UInt8) : skipB cm (10 :: t) = skipB false t := by rw [skipB, if_pos rfl]
theorem lex_cat (t : List UInt8) : ∀ (m : Nat) (s : List UInt8), s.length ≤ m → ∀ k,
    ((lexW k s).e ≠ 0 → lexW k (s ++ 10 :: t) = lexW k s) ∧
    ((lexW k s).e = 0 → ∃ l, lexW k s = ⟨l ++ [endT (k + s.length)], 0, 0⟩ ∧ lexW k (s ++ 10 :: t) = LexR.putAll l (lexW (k + s.length + 1) t)) := by
  intro m
  induction m with
  | zero =>
    intro s hs k
    obtain rfl : s = [] := List.length_eq_zero_iff.1 (by omega)
    rw [lex_end (k := k) (s := []) rfl]
    refine ⟨fun h => absurd rfl h, fun _ => ⟨[], rfl, ?_⟩⟩
    rw [putAll_nil]
    exact lex_skip (by rw [List.nil_append, skip10]) (by simp; omega)
  | succ m ih =>
    intro s hs k
    rcases lex_cases k s with ⟨h0, h1⟩ | ⟨e, h0, ht, he, h1⟩ | ⟨kd, n, v, h0, ht, hn, hnl, h1⟩
    · rw [h1]
      refine ⟨fun h => absurd rfl h, fun _ => ⟨[], rfl, ?_⟩⟩
      rw [putAll_nil]
      exact lex_skip (by rw [skipB_app _ _ _ h0, skip10]) (by simp; omega)
    · rw [h1]
      refine ⟨fun _ => ?_, fun h => absurd h he⟩
      have hs2 := skipB_app2 false s (10 :: t) h0
      rw [lex_err (s := s ++ 10 :: t) (by rw [hs2]; simp) (by rw [hs2, tok1_app h0 (sep10 t)]; exact ht), hs2]
      have := skipB_len false s
      congr 2
      simp only [List.length_append]
      omega
    · have hs2 := skipB_app2 false s (10 :: t) h0
      have hl := skipB_len false s
      have hr := rest_lt h0 hn
      obtain ⟨g1, g2⟩ := ih ((skipB false s).drop n) (by omega) (k + (s.length - (skipB false s).length) + n)
      have e1 : lexW k (s ++ 10 :: t) = (lexW (k + (s.length - (skipB false s).length) + n) ((skipB false s).drop n ++ 10 :: t)).put ⟨kd, (k + (s.length - (skipB false s).length) : Nat), (skipB false s).take n, v⟩ := by
        rw [lex_ok (s := s ++ 10 :: t) (by rw [hs2]; simp) (by rw [hs2, tok1_app h0 (sep10 t)]; exact ht) hn, hs2, List.drop_append_of_le_length hnl, List.take_append_of_le_length hnl]
        rw [show (s ++ 10 :: t).length - (skipB false s ++ 10 :: t).length = s.length - (skipB false s).length by simp only [List.length_append]; omega]
      rw [e1, h1]
      refine ⟨fun h => ?_, fun h => ?_⟩
      · rw [put_e] at h
        rw [g1 h]
      · rw [put_e] at h
        obtain ⟨l, h2, h3⟩ := g2 h
        refine ⟨⟨kd, (k + (s.length - (skipB false s).length) : Nat), (skipB false s).take n, v⟩ :: l, ?_, ?_⟩
        · rw [h2, put_ok rfl, List.length_drop]
          rw [show k + (s.length - (skipB false s).length) + n + ((skipB false s).length - n) = k + s.length by omega]
          rfl
        · rw [h3, putAll_cons, List.length_drop]
          rw [show k + (s.length - (skipB false s).length) + n + ((skipB false s).length - n) + 1 = k + s.length + 1 by omega]

/-! ### Prefixes -/
theorem tw_take {p : UInt8 → Bool} : ∀ (s : List UInt8) (m : Nat), (s.takeWhile p).length ≤ m → (s.take m).takeWhile p = s.takeWhile p
  | [], _, _ => by simp
  | c :: s, 0, h => by
    rw [List.takeWhile_cons] at h ⊢
    split
    · rename_i hc; rw [if_pos hc] at h; simp at h
    · rfl
  | c :: s, m + 1, h => by
    rw [List.take_succ_cons, List.takeWhile_cons, List.takeWhile_cons]
    split
    · rename_i hc
      rw [List.takeWhile_cons, if_pos hc] at h
      rw [tw_take s m (by simpa using h)]
    · rfl
theorem take_drop_take {s : List UInt8} {a n m : Nat} (h : a + n ≤ m) : ((s.take m).drop a).take n = (s.drop a).take n := by
  rw [List.drop_take, List.take_take, Nat.min_eq_left (by omega)]
/-- A token that is read is read out of every prefix that holds it. -/
theorem tok1_take {s : List UInt8} {kd : Int} {n m : Nat} {v : Int} (h : tok1 s = .ok kd n v) (hm : n ≤ m) : tok1 (s.take m) = .ok kd n v := by
  cases s with
  | nil => cases h
  | cons c r =>
    obtain ⟨m, rfl⟩ : ∃ m', m = m' + 1 := ⟨m - 1, by have := (tok1_len h).1; omega⟩
    rw [List.take_succ_cons, tok1_cons]
    rw [tok1_cons] at h
    by_cases hl : low c = true
    · rw [if_pos hl] at h ⊢
      split at h
      · cases h
      · injection h with h1 h2 h3
        rw [← List.take_succ_cons, tw_take _ _ (by omega)]
        rename_i h12
        rw [if_neg h12, h1, h2, h3]
    · rw [if_neg hl] at h ⊢
      by_cases hd : dig c = true
      · rw [if_pos hd] at h ⊢
        split at h
        · cases h
        · split at h
          · cases h
          · rename_i g1 g2
            injection h with h1 h2 h3
            rw [← List.take_succ_cons, tw_take _ _ (by omega), if_neg g1, if_neg g2, h1, h2, h3]
      · rw [if_neg hd] at h ⊢
        by_cases h64 : c = 64
        · rw [if_pos h64] at h ⊢
          split at h
          · rename_i hda
            cases hp : dayP (((c :: r).drop 1).take 10) with
            | none => rw [hp] at h; cases h
            | some d =>
              rw [hp] at h
              injection h with h1 h2 h3
              have hda2 : dated (c :: r.take m) = true := by
                simp only [dated, Bool.and_eq_true, decide_eq_true_eq] at hda ⊢
                obtain ⟨k1, k2, k3, k4, k5, k6⟩ := hda
                rw [← List.take_succ_cons, take_drop_take (by omega), take_drop_take (by omega), take_drop_take (by omega), List.getElem?_take, if_pos (by omega), List.getElem?_take, if_pos (by omega), List.length_take]
                exact ⟨by omega, k2, k3, k4, k5, k6⟩
              rw [if_pos hda2, ← List.take_succ_cons, take_drop_take (by omega), hp]
              simp only [h1, h2, h3]
          · cases h
        · rw [if_neg h64] at h ⊢
          split at h
          · cases h
          · rename_i hs
            injection h with h1 h2 h3
            have e : symN (c :: r.take m) = symN (c :: r) := by
              rw [symN_cons, symN_cons] at *
              cases r with
              | nil => simp
              | cons x r =>
                cases m with
                | zero =>
                  rw [List.take_zero]
                  by_cases hx : (c = 60 ∨ c = 33 ∨ c = 62) ∧ (x :: r).head? = some 61
                  · rw [if_pos hx] at h2; omega
                  · rw [if_neg hx]; simp
                | succ m => simp
            rw [e, if_neg hs, h1, h2, h3]
/-- A token's first byte is neither white space nor opens a comment. -/
theorem tok1_head {c : UInt8} {r : List UInt8} {kd : Int} {n : Nat} {v : Int} (h : tok1 (c :: r) = .ok kd n v) : c ≠ 10 ∧ c ≠ 35 ∧ blk c = false := by
  have key : ∀ x : UInt8, (x = 10 ∨ x = 35 ∨ blk x = true) → low x = false ∧ dig x = false ∧ x ≠ 64 ∧ symN (x :: r) = 0 := by
    intro x hx
    have h5 : x = 10 ∨ x = 35 ∨ x = 9 ∨ x = 13 ∨ x = 32 := by
      rcases hx with hx | hx | hx
      · exact .inl hx
      · exact .inr (.inl hx)
      · simp [blk] at hx
        rcases hx with hx | hx | hx | hx
        · exact .inr (.inr (.inl hx))
        · exact .inl hx
        · exact .inr (.inr (.inr (.inl hx)))
        · exact .inr (.inr (.inr (.inr hx)))
    rcases h5 with rfl | rfl | rfl | rfl | rfl <;> exact ⟨by decide, by decide, by decide, by rw [symN_cons]; simp⟩
  have hn : ¬ (c = 10 ∨ c = 35 ∨ blk c = true) := fun hx => by
    obtain ⟨k1, k2, k3, k4⟩ := key c hx
    rw [tok1_cons, k1, k2, k4] at h
    simp [k3] at h
  refine ⟨fun h => hn (.inl h), fun h => hn (.inr (.inl h)), ?_⟩
  cases hb : blk c with
  | false => rfl
  | true => exact absurd (.inr (.inr hb)) hn
theorem skip_tok {x t : List UInt8} {kd : Int} {n : Nat} {v : Int} (h : tok1 (x ++ t) = .ok kd n v) : skipB false (x ++ t) = x ++ t := by
  cases hx : x ++ t with
  | nil => rw [hx] at h; cases h
  | cons c r =>
    rw [hx] at h
    obtain ⟨h1, h2, h3⟩ := tok1_head h
    rw [skipB, if_neg h1, if_neg h2, h3]
    rfl
end Go.Proofs.YtbmcplnfamgpcaaDoor
