/- Plain law: how tokens behave when something is written behind a text. -/
import Derived.Test.YtbmcplnfamgpcaaDoorPlain
namespace Go.Proofs.YtbmcplnfamgpcaaDoor
open Go

/-- A byte behind which no token goes on. -/
def sepc (c : UInt8) : Bool := !wch c && (!decide (c = 61) && !decide (c = 45))
def SepHead (t : List UInt8) : Prop := ∀ c, t.head? = some c → sepc c = true
theorem sepc_wch {c : UInt8} (h : sepc c = true) : wch c = false := by simp [sepc] at h; exact h.1
theorem sepc_dig {c : UInt8} (h : sepc c = true) : dig c = false := by have := sepc_wch h; simp [wch] at this; exact this.2
theorem sepc_61 {c : UInt8} (h : sepc c = true) : c ≠ 61 := by simp [sepc] at h; exact h.2.1
theorem sepc_45 {c : UInt8} (h : sepc c = true) : c ≠ 45 := by simp [sepc] at h; exact h.2.2
theorem tw_app {p : UInt8 → Bool} {t : List UInt8} (h : ∀ c, t.head? = some c → p c = false) (s : List UInt8) : (s ++ t).takeWhile p = s.takeWhile p := by
  induction s with
  | nil => cases t with
    | nil => rfl
    | cons c t => have := h c rfl; simp [this]
  | cons c s ih => rw [List.cons_append, List.takeWhile_cons, List.takeWhile_cons, ih]
theorem dated_at {s : List UInt8} (h : dated s = true) {i : Nat} (h1 : 1 ≤ i) (h2 : i ≤ 10) : ∃ c, s[i]? = some c ∧ (dig c = true ∨ c = 45) := by
  simp only [dated, Bool.and_eq_true, decide_eq_true_eq] at h
  obtain ⟨hl, ha, h5, hb, h8, hc⟩ := h
  have hi : i < s.length := by omega
  refine ⟨s[i], List.getElem?_eq_getElem hi, ?_⟩
  have mem : ∀ a n, a ≤ i → i < a + n → s[i] ∈ (s.drop a).take n := fun a n g1 g2 => by
    rw [List.mem_iff_getElem?]
    refine ⟨i - a, ?_⟩
    rw [List.getElem?_take, if_pos (by omega), List.getElem?_drop, show a + (i - a) = i by omega]
    exact List.getElem?_eq_getElem hi
  by_cases i4 : i ≤ 4
  · exact .inl (List.all_eq_true.1 ha _ (mem 1 4 h1 (by omega)))
  · by_cases i5 : i = 5
    · subst i5; rw [List.getElem?_eq_getElem hi] at h5; exact .inr (by simpa using h5)
    · by_cases i7 : i ≤ 7
      · exact .inl (List.all_eq_true.1 hb _ (mem 6 2 (by omega) (by omega)))
      · by_cases i8 : i = 8
        · subst i8; rw [List.getElem?_eq_getElem hi] at h8; exact .inr (by simpa using h8)
        · exact .inl (List.all_eq_true.1 hc _ (mem 9 2 (by omega) (by omega)))
theorem take_drop_app {s t : List UInt8} {a n : Nat} (h : a + n ≤ s.length) : ((s ++ t).drop a).take n = (s.drop a).take n := by
  rw [List.drop_append_of_le_length (by omega), List.take_append_of_le_length (by rw [List.length_drop]; omega)]
theorem dated_app {s t : List UInt8} (hs : s ≠ []) (h : SepHead t) : dated (s ++ t) = dated s := by
  by_cases hl : 11 ≤ s.length
  · unfold dated
    rw [take_drop_app (by omega), take_drop_app (by omega), take_drop_app (by omega), List.getElem?_append_left (by omega), List.getElem?_append_left (by omega), List.length_append]
    rw [show decide (11 ≤ s.length + t.length) = decide (11 ≤ s.length) by rw [decide_eq_true (show 11 ≤ s.length + t.length by omega), decide_eq_true hl]]
  · have h0 : dated s = false := by unfold dated; rw [decide_eq_false hl]; rfl
    rw [h0]
    cases hd : dated (s ++ t) with
    | false => rfl
    | true =>
      have hn : 1 ≤ s.length := by cases s with
        | nil => exact absurd rfl hs
        | cons => simp
      obtain ⟨c, hc, hx⟩ := dated_at hd hn (by omega)
      rw [List.getElem?_append_right (Nat.le_refl _), Nat.sub_self] at hc
      have hsep := h c (by rw [List.head?_eq_getElem?]; exact hc)
      rcases hx with hx | hx
      · rw [sepc_dig hsep] at hx; cases hx
      · exact absurd hx (sepc_45 hsep)
theorem symN_app {c : UInt8} {r t : List UInt8} (h : SepHead t) : symN (c :: (r ++ t)) = symN (c :: r) := by
  rw [symN_cons, symN_cons]
  cases r with
  | nil =>
    have : ¬ (([] : List UInt8) ++ t).head? = some 61 := fun e => sepc_61 (h 61 e) rfl
    simp only [this, and_false, List.head?_nil]
    simp
  | cons x r => simp
/-- What is read ahead of a byte that ends every token does not hang on what follows. -/
theorem tok1_app {s t : List UInt8} (hs : s ≠ []) (h : SepHead t) : tok1 (s ++ t) = tok1 s := by
  cases s with
  | nil => exact absurd rfl hs
  | cons c r =>
    have hw : (c :: (r ++ t)).takeWhile wch = (c :: r).takeWhile wch := tw_app (fun x hx => sepc_wch (h x hx)) (c :: r)
    have hd : (c :: (r ++ t)).takeWhile dig = (c :: r).takeWhile dig := tw_app (fun x hx => sepc_dig (h x hx)) (c :: r)
    have hda : dated (c :: (r ++ t)) = dated (c :: r) := dated_app (s := c :: r) (by simp) h
    rw [List.cons_append, tok1_cons, tok1_cons, hw, hd, hda, symN_app h]
    by_cases h64 : c = 64 ∧ dated (c :: r) = true
    · have hl : 11 ≤ (c :: r).length := by
        have := h64.2
        simp only [dated, Bool.and_eq_true, decide_eq_true_eq] at this
        exact this.1
      rw [show ((c :: (r ++ t)).drop 1).take 10 = ((c :: r).drop 1).take 10 from take_drop_app (s := c :: r) (by omega)]
    · by_cases h1 : c = 64
      · have h2 : dated (c :: r) = false := by
          cases hx : dated (c :: r) with
          | false => rfl
          | true => exact absurd ⟨h1, hx⟩ h64
        simp only [h2, Bool.false_eq_true, if_false]
      · simp only [h1, if_false]
theorem tok1_err_ne {s : List UInt8} {e : Int} (h : tok1 s = .err e) : e ≠ 0 := by
  cases s with
  | nil => injection h with h; subst h; decide
  | cons c r =>
    rw [tok1_cons] at h
    repeat' split at h
    all_goals first | (injection h with h; subst h; decide) | cases h

/-! ### White space and comments -/
/-- Does a comment go on at the end? -/
def cmA : Bool → List UInt8 → Bool
  | cm, [] => cm
  | cm, c :: r => if c = 10 then cmA false r else if c = 35 then cmA true r else cmA cm r
theorem skipB_app : ∀ (cm : Bool) (s t : List UInt8), skipB cm s = [] → skipB cm (s ++ t) = skipB (cmA cm s) t
  | _, [], _, _ => rfl
  | cm, c :: r, t, h => by
    rw [skipB] at h
    rw [List.cons_append, skipB, cmA]
    split
    · rename_i hc; rw [if_pos hc] at h; exact skipB_app false r t h
    · rename_i hc; rw [if_neg hc] at h
      split
      · rename_i h35; rw [if_pos h35] at h; exact skipB_app true r t h
      · rename_i h35; rw [if_neg h35] at h
        split
        · rename_i hb; rw [if_pos hb] at h; exact skipB_app cm r t h
        · rename_i hb; rw [if_neg hb] at h; cases h
theorem skipB_app2 : ∀ (cm : Bool) (s t : List UInt8), skipB cm s ≠ [] → skipB cm (s ++ t) = skipB cm s ++ t
  | _, [], _, h => absurd rfl h
  | cm, c :: r, t, h => by
    rw [skipB] at h
    rw [List.cons_append, skipB]
    conv => rhs; rw [skipB]
    split
    · rename_i hc; rw [if_pos hc] at h; exact skipB_app2 false r t h
    · rename_i hc; rw [if_neg hc] at h
      split
      · rename_i h35; rw [if_pos h35] at h; exact skipB_app2 true r t h
      · rename_i h35; rw [if_neg h35] at h
        split
        · rename_i hb; rw [if_pos hb] at h; exact skipB_app2 cm r t h
        · rfl
theorem skipB_drop : ∀ (cm : Bool) (s : List UInt8), s.drop (s.length - (skipB cm s).length) = skipB cm s
  | _, [] => rfl
  | cm, c :: r => by
    have step : ∀ b, skipB cm (c :: r) = skipB b r → (c :: r).drop ((c :: r).length - (skipB cm (c :: r)).length) = skipB cm (c :: r) := fun b h => by
      have h1 := skipB_len b r
      rw [h, List.length_cons, show r.length + 1 - (skipB b r).length = (r.length - (skipB b r).length) + 1 by omega, List.drop_succ_cons]
      exact skipB_drop b r
    by_cases hc : c = 10
    · exact step false (by rw [skipB, if_pos hc])
    · by_cases h35 : c = 35
      · exact step true (by rw [skipB, if_neg hc, if_pos h35])
      · by_cases hb : (cm || blk c) = true
        · exact step cm (by rw [skipB, if_neg hc, if_neg h35, if_pos hb])
        · rw [show skipB cm (c :: r) = c :: r by rw [skipB, if_neg hc, if_neg h35, if_neg hb], Nat.sub_self]; rfl
/-- Tokens hang on what is left behind the white space, and on where it stands. -/
theorem lex_skip {k k' : Nat} {s s' : List UInt8} (h : skipB false s = skipB false s') (hk : k + s.length = k' + s'.length) : lexW k s = lexW k' s' := by
  have h1 := skipB_len false s
  have h2 := skipB_len false s'
  rw [h] at h1
  by_cases h0 : skipB false s' = []
  · rw [lex_end (h.trans h0), lex_end h0, hk]
  · have e : k + (s.length - (skipB false s').length) = k' + (s'.length - (skipB false s').length) := by omega
    cases ht : tok1 (skipB false s') with
    | err e' => rw [lex_err (s := s) (h ▸ h0) (h ▸ ht), lex_err h0 ht, h, e]
    | ok kd n v =>
      have hn := (tok1_len ht).1
      rw [lex_ok (s := s) (h ▸ h0) (h ▸ ht) hn, lex_ok h0 ht hn, h, e]
end Go.Proofs.YtbmcplnfamgpcaaDoor
