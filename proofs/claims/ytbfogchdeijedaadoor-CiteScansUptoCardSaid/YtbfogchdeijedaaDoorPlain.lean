/- Plain law: the texts of numbers and labels, and how they are read; no walk in sight. -/
import Derived.Test.YtbfogchdeijedaaDoorLet
import Derived.Lib.ItoaLen
import Derived.Lib.AtoiAll
import Derived.Lib.IndexMore
namespace Go.Proofs.YtbfogchdeijedaaDoor
open Go

def dig (c : UInt8) : Bool := decide (48 ≤ c.toNat) && decide (c.toNat ≤ 57)
def low (c : UInt8) : Bool := decide (97 ≤ c.toNat) && decide (c.toNat ≤ 122)
theorem dig_iff {c : UInt8} : dig c = true ↔ 48 ≤ c.toNat ∧ c.toNat ≤ 57 := by simp [dig]
theorem low_iff {c : UInt8} : low c = true ↔ 97 ≤ c.toNat ∧ c.toNat ≤ 122 := by simp [low]
def dstep (a : Nat) (c : UInt8) : Nat := 10 * a + (c.toNat - 48)
def sstep (a : Nat) (c : UInt8) : Nat := 26 * a + (c.toNat - 97) + 1
/-- The value of digits behind a number. -/
def dval (a : Nat) (l : List UInt8) : Nat := l.foldl dstep a
/-- The value of letters behind a number. -/
def sval (a : Nat) (l : List UInt8) : Nat := l.foldl sstep a
theorem dval_nil (a : Nat) : dval a [] = a := rfl
theorem sval_nil (a : Nat) : sval a [] = a := rfl
theorem dval_cons (a : Nat) (c : UInt8) (l : List UInt8) : dval a (c :: l) = dval (10 * a + (c.toNat - 48)) l := by simp only [dval, List.foldl_cons, dstep]
theorem sval_cons (a : Nat) (c : UInt8) (l : List UInt8) : sval a (c :: l) = sval (26 * a + (c.toNat - 97) + 1) l := by simp only [sval, List.foldl_cons, sstep]
theorem dval_snoc (l : List UInt8) (a : Nat) (c : UInt8) : dval a (l ++ [c]) = 10 * dval a l + (c.toNat - 48) := by
  simp only [dval, List.foldl_append, List.foldl_cons, List.foldl_nil, dstep]
theorem sval_snoc (l : List UInt8) (a : Nat) (c : UInt8) : sval a (l ++ [c]) = 26 * sval a l + (c.toNat - 97) + 1 := by
  simp only [sval, List.foldl_append, List.foldl_cons, List.foldl_nil, sstep]

/-! ### Numerals -/
theorem toNat_48 {d : Nat} (h : d < 10) : (UInt8.ofNat (48 + d)).toNat = 48 + d := by
  rw [UInt8.toNat_ofNat']; omega
theorem toNat_97 {d : Nat} (h : d < 26) : (UInt8.ofNat (97 + d)).toNat = 97 + d := by
  rw [UInt8.toNat_ofNat']; omega
theorem dec_small {u : Nat} (h : u < 10) : Lib.decDigits u = [UInt8.ofNat (48 + u)] := by rw [Lib.decDigits, dif_pos h]
theorem dec_big {u : Nat} (h : ¬ u < 10) : Lib.decDigits u = Lib.decDigits (u / 10) ++ [UInt8.ofNat (48 + u % 10)] := by rw [Lib.decDigits, dif_neg h]
theorem dec_all (u : Nat) : (Lib.decDigits u).all dig = true ∧ dval 0 (Lib.decDigits u) = u ∧ (Lib.decDigits u) ≠ [] ∧ (0 < u → (Lib.decDigits u).head? ≠ some 48) := by
  induction u using Nat.strongRecOn with
  | _ u ih =>
    by_cases h : u < 10
    · rw [dec_small h]
      have e := toNat_48 h
      refine ⟨by simp [dig]; omega, by simp [dval_cons, dval_nil]; omega, by simp, fun h0 h1 => ?_⟩
      have h2 : UInt8.ofNat (48 + u) = 48 := by simpa using h1
      rw [h2] at e
      have : (48 : UInt8).toNat = 48 := rfl
      omega
    · obtain ⟨h1, h2, h3, h4⟩ := ih (u / 10) (by omega)
      rw [dec_big h]
      have e := toNat_48 (d := u % 10) (by omega)
      refine ⟨by rw [List.all_append, h1]; simp [dig]; omega, by rw [dval_snoc, h2, e]; omega, by simp, fun _ => ?_⟩
      have h5 := h4 (by omega)
      cases hd : Lib.decDigits (u / 10) with
      | nil => exact absurd hd h3
      | cons a l => rw [hd] at h5; simpa using h5
theorem ofNat_toNat {c : UInt8} {k : Nat} (h : c.toNat = k) : UInt8.ofNat k = c := by
  subst h; simp
/-- A numeral that is well formed is the numeral of its value. -/
theorem dec_of (l : List UInt8) (hall : l.all dig = true) (hne : l ≠ []) (h0 : l.head? ≠ some 48) : Lib.decDigits (dval 0 l) = l ∧ 0 < dval 0 l := by
  have main : ∀ k (l : List UInt8), l.length = k → l.all dig = true → l ≠ [] → l.head? ≠ some 48 → Lib.decDigits (dval 0 l) = l ∧ 0 < dval 0 l := by
    intro k
    induction k with
    | zero => intro l h _ hne; cases l with
      | nil => exact absurd rfl hne
      | cons => simp at h
    | succ k ih =>
      intro l hl hall hne h0
      obtain ⟨m, c, rfl⟩ : ∃ m c, l = m ++ [c] := ⟨l.dropLast, l.getLast hne, (List.dropLast_concat_getLast hne).symm⟩
      rw [List.all_append] at hall
      simp only [List.all_cons, List.all_nil, Bool.and_true, Bool.and_eq_true] at hall
      have hc := dig_iff.1 hall.2
      rw [dval_snoc]
      cases m with
      | nil =>
        have h48 : c ≠ 48 := by simpa using h0
        have h49 : c.toNat ≠ 48 := fun h => h48 (by rw [← ofNat_toNat h]; rfl)
        simp only [dval_nil, List.nil_append, Nat.mul_zero, Nat.zero_add]
        refine ⟨?_, by omega⟩
        rw [dec_small (by omega), ofNat_toNat (c := c) (by omega)]
      | cons d m =>
        obtain ⟨h1, h2⟩ := ih (d :: m) (by simpa using hl) hall.1 (by simp) (by simpa using h0)
        refine ⟨?_, by omega⟩
        rw [dec_big (by omega), show (10 * dval 0 (d :: m) + (c.toNat - 48)) / 10 = dval 0 (d :: m) by omega, h1, ofNat_toNat (c := c) (by omega)]
  exact main l.length l rfl hall hne h0
theorem dval_lt : ∀ (l : List UInt8) (a : Nat), l.all dig = true → dval a l < (a + 1) * 10 ^ l.length
  | [], a, _ => by simp [dval_nil]
  | c :: l, a, h => by
    simp only [List.all_cons, Bool.and_eq_true] at h
    have hc := dig_iff.1 h.1
    have ih := dval_lt l (10 * a + (c.toNat - 48)) h.2
    simp only [dval_cons, List.length_cons]
    refine Nat.lt_of_lt_of_le ih ?_
    have : 10 * a + (c.toNat - 48) + 1 ≤ (a + 1) * 10 := by omega
    calc (10 * a + (c.toNat - 48) + 1) * 10 ^ l.length ≤ ((a + 1) * 10) * 10 ^ l.length := Nat.mul_le_mul_right _ this
      _ = (a + 1) * 10 ^ (l.length + 1) := by rw [Nat.pow_succ]; simp [Nat.mul_assoc, Nat.mul_comm]

/-! ### Letters -/
theorem lets_all (u : Nat) : (lets u).all low = true ∧ sval 0 (lets u) = u := by
  induction u using Nat.strongRecOn with
  | _ u ih =>
    by_cases h : u = 0
    · subst h; rw [lets_zero]; exact ⟨rfl, rfl⟩
    · obtain ⟨h1, h2⟩ := ih ((u - 1) / 26) (by omega)
      have e := toNat_97 (d := (u - 1) % 26) (by omega)
      rw [lets_pos h]
      refine ⟨by rw [List.all_append, h1]; simp [low]; omega, by rw [sval_snoc, h2, e]; omega⟩
theorem lets_of (l : List UInt8) (hall : l.all low = true) : lets (sval 0 l) = l := by
  have main : ∀ k (l : List UInt8), l.length = k → l.all low = true → lets (sval 0 l) = l := by
    intro k
    induction k with
    | zero => intro l h _; cases l with
      | nil => exact lets_zero
      | cons => simp at h
    | succ k ih =>
      intro l hl hall
      have hne : l ≠ [] := by intro h; subst h; simp at hl
      obtain ⟨m, c, rfl⟩ : ∃ m c, l = m ++ [c] := ⟨l.dropLast, l.getLast hne, (List.dropLast_concat_getLast hne).symm⟩
      rw [List.all_append] at hall
      simp only [List.all_cons, List.all_nil, Bool.and_true, Bool.and_eq_true] at hall
      have hc := low_iff.1 hall.2
      rw [sval_snoc, lets_pos (by omega), show (26 * sval 0 m + (c.toNat - 97) + 1 - 1) / 26 = sval 0 m by omega, ih m (by simpa using hl) hall.1,
        show 97 + (26 * sval 0 m + (c.toNat - 97) + 1 - 1) % 26 = c.toNat by omega, ofNat_toNat rfl]
  exact main l.length l rfl hall
theorem lets_len (k : Nat) : ∀ u, u < (26 ^ (k + 1) - 1) / 25 → (lets u).length ≤ k := by
  induction k with
  | zero => intro u h; have : u = 0 := by simp at h; omega
            subst this; rw [lets_zero]; simp
  | succ k ih =>
    intro u h
    by_cases h0 : u = 0
    · subst h0; rw [lets_zero]; simp
    · rw [lets_pos h0, List.length_append]
      have h1 : 25 * ((26 ^ (k + 1) - 1) / 25) = 26 ^ (k + 1) - 1 := by
        have : 26 ^ (k + 1) % 25 = 1 := by rw [Nat.pow_mod]; simp
        omega
      have h2 : 25 * ((26 ^ (k + 1 + 1) - 1) / 25) = 26 ^ (k + 1 + 1) - 1 := by
        have : 26 ^ (k + 1 + 1) % 25 = 1 := by rw [Nat.pow_mod]; simp
        omega
      have h3 : 26 ^ (k + 1 + 1) = 26 * 26 ^ (k + 1) := by rw [Nat.pow_succ (n := 26) (m := k + 1)]; exact Nat.mul_comm _ _
      have := ih ((u - 1) / 26) (by omega)
      simp; omega

/-! ### Numbers of a citation -/
def numP (l : List UInt8) : Option Nat := if 1 ≤ l.length ∧ l.length ≤ 3 ∧ l.all dig = true ∧ (l.head? = some 48 → l.length = 1) then some (dval 0 l) else none
theorem numP_dec {n : Nat} (h : n < 1000) : numP (Lib.decDigits n) = some n := by
  obtain ⟨h1, h2, h3, h4⟩ := dec_all n
  have hl : (Lib.decDigits n).length ≤ 3 := by
    rw [Lib.decDigits_length]
    by_cases h10 : n < 10
    · rw [Lib.nDigits_small h10]; omega
    · rw [Lib.nDigits_big h10]
      by_cases h100 : n / 10 < 10
      · rw [Lib.nDigits_small h100]; omega
      · rw [Lib.nDigits_big h100, Lib.nDigits_small (by omega)]; omega
  unfold numP
  rw [if_pos, h2]
  refine ⟨?_, hl, h1, fun h5 => ?_⟩
  · cases hd : Lib.decDigits n with
    | nil => exact absurd hd h3
    | cons => simp
  · by_cases h0 : 0 < n
    · exact absurd h5 (h4 h0)
    · have : n = 0 := by omega
      subst this; rw [dec_small (by omega)]; rfl
theorem numP_some {l : List UInt8} {n : Nat} (h : numP l = some n) : Lib.decDigits n = l ∧ n < 1000 ∧ l.length ≤ 3 ∧ l.all dig = true ∧ l ≠ [] := by
  unfold numP at h
  split at h
  · rename_i hc
    obtain ⟨h1, h2, h3, h4⟩ := hc
    injection h with h
    subst h
    have hne : l ≠ [] := by intro e; subst e; simp at h1
    have hlt := dval_lt l 0 h3
    have hp : 10 ^ l.length ≤ 10 ^ 3 := Nat.pow_le_pow_right (by decide) h2
    refine ⟨?_, by omega, h2, h3, hne⟩
    by_cases h5 : l.head? = some 48
    · have := h4 h5
      match l, this with
      | [c], _ => have hc : c = 48 := by simpa using h5
                  subst hc; exact dec_small (by decide)
    · exact (dec_of l h3 hne h5).1
  · cases h
theorem pu10 : ∀ (l : List UInt8) (a : Nat), l.all dig = true → dval a l < 1000000000 → a < 1000000000 → Lib.parseUint10 a l = .ok (dval a l)
  | [], a, _, _, _ => rfl
  | c :: l, a, h, hv, ha => by
    simp only [List.all_cons, Bool.and_eq_true] at h
    have hc := dig_iff.1 h.1
    have hle : ∀ (l : List UInt8) (a : Nat), a ≤ dval a l := by
      intro l; induction l with
      | nil => intro a; exact Nat.le_refl _
      | cons d l ih => intro a; rw [dval_cons]; exact Nat.le_trans (by omega) (ih (10 * a + (d.toNat - 48)))
    rw [dval_cons] at hv ⊢
    have h1 : 10 * a + (c.toNat - 48) ≤ dval (10 * a + (c.toNat - 48)) l := hle l _
    rw [Lib.parseUint10, if_pos hc, if_neg (by omega), if_neg (by omega), show a * 10 + (c.toNat - 48) = 10 * a + (c.toNat - 48) by omega, pu10 l _ h.2 hv (by omega)]
theorem atoi_num {l : List UInt8} {n : Nat} (h : numP l = some n) : Lib.atoiAll l = .ok (n : Int) := by
  obtain ⟨h1, h2, h3, h4, h5⟩ := numP_some h
  have hd : dval 0 l = n := by rw [← h1]; exact (dec_all n).2.1
  match l, h5, h4, hd with
  | c :: r, _, h4, hd =>
    have hc := dig_iff.1 (show dig c = true by simp only [List.all_cons, Bool.and_eq_true] at h4; exact h4.1)
    unfold Lib.atoiAll
    have h45 : ¬ c.toNat = 45 := by omega
    have h43 : ¬ c.toNat = 43 := by omega
    simp only [h45, h43, or_false, if_false]
    have hm : Lib.parseMag (c :: r) = .ok n := by
      unfold Lib.parseMag
      rw [if_neg (by simp), pu10 _ 0 h4 (by omega) (by omega), hd]
    rw [hm]
    simp
    omega
theorem numP_of {l : List UInt8} {n : Int} (h3 : l.length ≤ 3) (h2 : Lib.itoa n = l) (h0 : 0 ≤ n) : numP l = some n.toNat := by
  obtain ⟨k, rfl⟩ : ∃ k : Nat, n = k := ⟨n.toNat, by omega⟩
  have e : Lib.itoa (k : Int) = Lib.decDigits k := by unfold Lib.itoa; rw [if_neg (by omega)]; simp
  rw [e] at h2
  subst h2
  have hlt := dval_lt (Lib.decDigits k) 0 (dec_all k).1
  rw [(dec_all k).2.1] at hlt
  have hp : 10 ^ (Lib.decDigits k).length ≤ 10 ^ 3 := Nat.pow_le_pow_right (by decide) h3
  simpa using numP_dec (n := k) (by omega)

/-! ### Labels -/
/-- label.Parse, byte by byte. -/
def labGo (n m nu su : Nat) : List UInt8 → Option (Nat × Nat)
  | [] => if n = 0 then none else some (nu, su)
  | c :: r => if dig c = true ∧ m = 0 ∧ n < 5 ∧ (0 < n ∨ c ≠ 48) then labGo (n + 1) m (10 * nu + (c.toNat - 48)) su r
    else if low c = true ∧ 0 < n ∧ m < 4 then labGo n (m + 1) nu (26 * su + (c.toNat - 97) + 1) r else none
/-- The reference's Parse of a label. -/
def labP (l : List UInt8) : Option (Nat × Nat) :=
  if 1 ≤ (l.takeWhile dig).length ∧ (l.takeWhile dig).length ≤ 5 ∧ l.head? ≠ some 48 ∧ (l.dropWhile dig).length ≤ 4 ∧ (l.dropWhile dig).all low = true
  then some (dval 0 (l.takeWhile dig), sval 0 (l.dropWhile dig)) else none
theorem dig_low {c : UInt8} (h : low c = true) : dig c = false := by
  have := low_iff.1 h
  cases hd : dig c with
  | false => rfl
  | true => have := dig_iff.1 hd; omega
theorem labGo_lets : ∀ (l : List UInt8) (n m nu su : Nat), 0 < n → m ≤ 4 → (0 < m ∨ ∀ c, l.head? = some c → dig c = false) →
    labGo n m nu su l = if m + l.length ≤ 4 ∧ l.all low = true then some (nu, sval su l) else none
  | [], n, m, nu, su, hn, hm, _ => by
    unfold labGo
    rw [if_neg (by omega), if_pos ⟨by simpa using hm, rfl⟩]
    rfl
  | c :: l, n, m, nu, su, hn, hm, hd => by
    unfold labGo
    rw [if_neg (by rintro ⟨h1, h2, _⟩; rcases hd with hd | hd; · omega
                   · rw [hd c rfl] at h1; cases h1)]
    by_cases hlow : low c = true ∧ m < 4
    · rw [if_pos ⟨hlow.1, hn, hlow.2⟩, labGo_lets l n (m + 1) nu _ hn (by omega) (.inl (by omega))]
      simp only [List.length_cons, List.all_cons, hlow.1, Bool.true_and]
      rw [show m + 1 + l.length = m + (l.length + 1) by omega]
      rfl
    · rw [if_neg (fun h => hlow ⟨h.1, h.2.2⟩), if_neg]
      rintro ⟨h1, h2⟩
      simp only [List.length_cons, List.all_cons, Bool.and_eq_true] at h1 h2
      exact hlow ⟨h2.1, by omega⟩
theorem labGo_digs : ∀ (l : List UInt8) (n nu : Nat), 0 < n → n ≤ 5 →
    labGo n 0 nu 0 l = if n + (l.takeWhile dig).length ≤ 5 ∧ (l.dropWhile dig).length ≤ 4 ∧ (l.dropWhile dig).all low = true then some (dval nu (l.takeWhile dig), sval 0 (l.dropWhile dig)) else none
  | [], n, nu, hn, h5 => by
    unfold labGo
    rw [if_neg (by omega), if_pos ⟨by simpa using h5, by simp, rfl⟩]
    rfl
  | c :: l, n, nu, hn, h5 => by
    by_cases hc : dig c = true
    · rw [List.takeWhile_cons, List.dropWhile_cons]
      simp only [hc, if_true, List.length_cons]
      unfold labGo
      by_cases hn5 : n < 5
      · rw [if_pos ⟨hc, rfl, hn5, .inl hn⟩, labGo_digs l (n + 1) _ (by omega) (by omega), show n + 1 + (l.takeWhile dig).length = n + ((l.takeWhile dig).length + 1) by omega]
        rfl
      · rw [if_neg (fun h => hn5 h.2.2.1), if_neg (fun h => by rw [dig_low h.1] at hc; cases hc), if_neg (by omega)]
    · have hcf : dig c = false := by simpa using hc
      rw [labGo_lets (c :: l) n 0 nu 0 hn (by omega) (.inr (by simpa using hcf)), List.takeWhile_cons, List.dropWhile_cons]
      simp only [hcf, Bool.false_eq_true, if_false, List.length_nil, Nat.add_zero, Nat.zero_add, dval_nil, h5, true_and]
theorem labGo_labP (l : List UInt8) : labGo 0 0 0 0 l = labP l := by
  cases l with
  | nil => rfl
  | cons c l =>
    unfold labGo labP
    rw [List.takeWhile_cons, List.dropWhile_cons]
    by_cases hc : dig c = true
    · simp only [hc, if_true, List.length_cons, List.head?_cons]
      by_cases h48 : c = 48
      · subst h48
        rw [if_neg (by simp), if_neg (by simp), if_neg (by simp)]
      · rw [if_pos ⟨trivial, trivial, by omega, .inr h48⟩, labGo_digs l 1 _ (by omega) (by omega)]
        have e : (1 + (l.takeWhile dig).length ≤ 5 ∧ (l.dropWhile dig).length ≤ 4 ∧ (l.dropWhile dig).all low = true) ↔ (1 ≤ (l.takeWhile dig).length + 1 ∧ (l.takeWhile dig).length + 1 ≤ 5 ∧ some c ≠ some 48 ∧ (l.dropWhile dig).length ≤ 4 ∧ (l.dropWhile dig).all low = true) :=
          ⟨fun ⟨a, b⟩ => ⟨by omega, by omega, by simpa using h48, b⟩, fun ⟨_, a, _, b⟩ => ⟨by omega, b⟩⟩
        simp only [e, dval_cons]
    · have hcf : dig c = false := by simpa using hc
      simp only [hcf, Bool.false_eq_true, if_false, List.length_nil, false_and, Nat.lt_irrefl, and_false]
      rw [if_neg (by omega)]
theorem labP_text (n s : Nat) (hn : 1 ≤ n ∧ n ≤ 16384) (hs : s ≤ 16384) : labP (Lib.decDigits n ++ lets s) = some (n, s) := by
  obtain ⟨h1, h2, h3, h4⟩ := dec_all n
  obtain ⟨h5, h6⟩ := lets_all s
  have tw : (Lib.decDigits n ++ lets s).takeWhile dig = Lib.decDigits n ∧ (Lib.decDigits n ++ lets s).dropWhile dig = lets s := by
    have key : ∀ (a b : List UInt8), a.all dig = true → b.all low = true → (a ++ b).takeWhile dig = a ∧ (a ++ b).dropWhile dig = b := by
      intro a b ha hb
      induction a with
      | nil =>
        cases b with
        | nil => exact ⟨rfl, rfl⟩
        | cons c b =>
          simp only [List.all_cons, Bool.and_eq_true] at hb
          have := dig_low hb.1
          simp [this]
      | cons d a ih =>
        simp only [List.all_cons, Bool.and_eq_true] at ha
        have := ih ha.2
        simp [ha.1, this]
    exact key _ _ h1 h5
  have hl5 : (Lib.decDigits n).length ≤ 5 := by
    rw [Lib.decDigits_length]
    by_cases h : n < 10
    · rw [Lib.nDigits_small h]; omega
    · rw [Lib.nDigits_big h]
      by_cases h : n / 10 < 10
      · rw [Lib.nDigits_small h]; omega
      · rw [Lib.nDigits_big h]
        by_cases h : n / 10 / 10 < 10
        · rw [Lib.nDigits_small h]; omega
        · rw [Lib.nDigits_big h]
          by_cases h : n / 10 / 10 / 10 < 10
          · rw [Lib.nDigits_small h]; omega
          · rw [Lib.nDigits_big h, Lib.nDigits_small (by omega)]; omega
  have hl4 : (lets s).length ≤ 4 := lets_len 4 s (by omega)
  unfold labP
  rw [tw.1, tw.2, if_pos, h2, h6]
  refine ⟨?_, hl5, ?_, hl4, h5⟩
  · cases hd : Lib.decDigits n with
    | nil => exact absurd hd h3
    | cons => simp
  · have := h4 (by omega)
    cases hd : Lib.decDigits n with
    | nil => exact absurd hd h3
    | cons a l => rw [hd] at this; simpa using this
theorem labP_some {l : List UInt8} {n s : Nat} (h : labP l = some (n, s)) : Lib.decDigits n ++ lets s = l := by
  unfold labP at h
  split at h
  · rename_i hc
    obtain ⟨h1, h2, h3, h4, h5⟩ := hc
    injection h with h
    injection h with ha hb
    subst ha hb
    have hall : (l.takeWhile dig).all dig = true := List.all_takeWhile
    have hne : l.takeWhile dig ≠ [] := by intro e; rw [e] at h1; simp at h1
    have hh : (l.takeWhile dig).head? ≠ some 48 := by
      cases l with
      | nil => simp
      | cons c l =>
        rw [List.takeWhile_cons]
        split
        · simpa using h3
        · simp
    rw [(dec_of _ hall hne hh).1, lets_of _ h5, List.takeWhile_append_dropWhile]
  · cases h
end Go.Proofs.YtbfogchdeijedaaDoor
