/- Plain law: the texts of numbers and labels, and how they are read; no walk in sight. -/
import Derived.Lib.AtoiAll
import Derived.Lib.IndexMore
import Derived.Test.YtdbnddmncbjobaaGreatDoorQab
import Derived.Deep.RegionHeld3
import Derived.Lib.CutLaws
namespace Go.Proofs.YtdbnddmncbjobaaGreatDoor
section
open Go

def dig (c : UInt8) : Bool := decide (48 ≤ c.toNat) && decide (c.toNat ≤ 57)
def low (c : UInt8) : Bool := decide (97 ≤ c.toNat) && decide (c.toNat ≤ 122)
theorem dig_iff {c : UInt8} : dig c = true ↔ 48 ≤ c.toNat ∧ c.toNat ≤ 57 := by simp [dig]
theorem low_iff {c : UInt8} : low c = true ↔ 97 ≤ c.toNat ∧ c.toNat ≤ 122 := by simp [low]
def dstep (a : Nat) (c : UInt8) : Nat := 10 * a + (c.toNat - 48)
def sstep (a : Nat) (c : UInt8) : Nat := 26 * a + (c.toNat - 97) + 1
/-- The value of digits behind a number. -/
def dval (a : Nat) (l : List UInt8) : Nat := l.foldl dstep a
/-- The value of letters behind a number. -/
def sval (a : Nat) (l : List UInt8) : Nat := l.foldl sstep a
theorem dval_nil (a : Nat) : dval a [] = a := rfl
theorem dval_cons (a : Nat) (c : UInt8) (l : List UInt8) : dval a (c :: l) = dval (10 * a + (c.toNat - 48)) l := by simp only [dval, List.foldl_cons, dstep]
theorem dval_snoc (l : List UInt8) (a : Nat) (c : UInt8) : dval a (l ++ [c]) = 10 * dval a l + (c.toNat - 48) := by
  simp only [dval, List.foldl_append, List.foldl_cons, List.foldl_nil, dstep]
theorem sval_snoc (l : List UInt8) (a : Nat) (c : UInt8) : sval a (l ++ [c]) = 26 * sval a l + (c.toNat - 97) + 1 := by
  simp only [sval, List.foldl_append, List.foldl_cons, List.foldl_nil, sstep]

/-! ### Numerals -/
theorem toNat_48 {d : Nat} (h : d < 10) : (UInt8.ofNat (48 + d)).toNat = 48 + d := by
  rw [UInt8.toNat_ofNat']; omega
theorem toNat_97 {d : Nat} (h : d < 26) : (UInt8.ofNat (97 + d)).toNat = 97 + d := by
  rw [UInt8.toNat_ofNat']; omega
theorem dec_small {u : Nat} (h : u < 10) : Lib.decDigits u = [UInt8.ofNat (48 + u)] := by rw [Lib.decDigits, dif_pos h]
theorem dec_big {u : Nat} (h : ¬ u < 10) : Lib.decDigits u = Lib.decDigits (u / 10) ++ [UInt8.ofNat (48 + u % 10)] := by rw [Lib.decDigits, dif_neg h]
theorem dec_all (u : Nat) : (Lib.decDigits u).all dig = true ∧ dval 0 (Lib.decDigits u) = u ∧ (Lib.decDigits u) ≠ [] ∧ (0 < u → (Lib.decDigits u).head? ≠ some 48) := by
  induction u using Nat.strongRecOn with
  | _ u ih =>
    by_cases h : u < 10
    · rw [dec_small h]
      have e := toNat_48 h
      refine ⟨by simp [dig]; omega, by simp [dval_cons, dval_nil]; omega, by simp, fun h0 h1 => ?_⟩
      have h2 : UInt8.ofNat (48 + u) = 48 := by simpa using h1
      rw [h2] at e
      have : (48 : UInt8).toNat = 48 := rfl
      omega
    · obtain ⟨h1, h2, h3, h4⟩ := ih (u / 10) (by omega)
      rw [dec_big h]
      have e := toNat_48 (d := u % 10) (by omega)
      refine ⟨by rw [List.all_append, h1]; simp [dig]; omega, by rw [dval_snoc, h2, e]; omega, by simp, fun _ => ?_⟩
      have h5 := h4 (by omega)
      cases hd : Lib.decDigits (u / 10) with
      | nil => exact absurd hd h3
      | cons a l => rw [hd] at h5; simpa using h5
theorem ofNat_toNat {c : UInt8} {k : Nat} (h : c.toNat = k) : UInt8.ofNat k = c := by
  subst h; simp
/-- A numeral that is well formed is the numeral of its value. -/
theorem dec_of (l : List UInt8) (hall : l.all dig = true) (hne : l ≠ []) (h0 : l.head? ≠ some 48) : Lib.decDigits (dval 0 l) = l ∧ 0 < dval 0 l := by
  have main : ∀ k (l : List UInt8), l.length = k → l.all dig = true → l ≠ [] → l.head? ≠ some 48 → Lib.decDigits (dval 0 l) = l ∧ 0 < dval 0 l := by
    intro k
    induction k with
    | zero => intro l h _ hne; cases l with
      | nil => exact absurd rfl hne
      | cons => simp at h
    | succ k ih =>
      intro l hl hall hne h0
      obtain ⟨m, c, rfl⟩ : ∃ m c, l = m ++ [c] := ⟨l.dropLast, l.getLast hne, (List.dropLast_concat_getLast hne).symm⟩
      rw [List.all_append] at hall
      simp only [List.all_cons, List.all_nil, Bool.and_true, Bool.and_eq_true] at hall
      have hc := dig_iff.1 hall.2
      rw [dval_snoc]
      cases m with
      | nil =>
        have h48 : c ≠ 48 := by simpa using h0
        have h49 : c.toNat ≠ 48 := fun h => h48 (by rw [← ofNat_toNat h]; rfl)
        simp only [dval_nil, List.nil_append, Nat.mul_zero, Nat.zero_add]
        refine ⟨?_, by omega⟩
        rw [dec_small (by omega), ofNat_toNat (c := c) (by omega)]
      | cons d m =>
        obtain ⟨h1, h2⟩ := ih (d :: m) (by simpa using hl) hall.1 (by simp) (by simpa using h0)
        refine ⟨?_, by omega⟩
        rw [dec_big (by omega), show (10 * dval 0 (d :: m) + (c.toNat - 48)) / 10 = dval 0 (d :: m) by omega, h1, ofNat_toNat (c := c) (by omega)]
  exact main l.length l rfl hall hne h0
theorem dval_lt : ∀ (l : List UInt8) (a : Nat), l.all dig = true → dval a l < (a + 1) * 10 ^ l.length
  | [], a, _ => by simp [dval_nil]
  | c :: l, a, h => by
    simp only [List.all_cons, Bool.and_eq_true] at h
    have hc := dig_iff.1 h.1
    have ih := dval_lt l (10 * a + (c.toNat - 48)) h.2
    simp only [dval_cons, List.length_cons]
    refine Nat.lt_of_lt_of_le ih ?_
    have : 10 * a + (c.toNat - 48) + 1 ≤ (a + 1) * 10 := by omega
    calc (10 * a + (c.toNat - 48) + 1) * 10 ^ l.length ≤ ((a + 1) * 10) * 10 ^ l.length := Nat.mul_le_mul_right _ this
      _ = (a + 1) * 10 ^ (l.length + 1) := by rw [Nat.pow_succ]; simp [Nat.mul_assoc, Nat.mul_comm]

/-! ### Letters -/
theorem lets_all (u : Nat) : (lets u).all low = true ∧ sval 0 (lets u) = u := by
  induction u using Nat.strongRecOn with
  | _ u ih =>
    by_cases h : u = 0
    · subst h; rw [lets_zero]; exact ⟨rfl, rfl⟩
    · obtain ⟨h1, h2⟩ := ih ((u - 1) / 26) (by omega)
      have e := toNat_97 (d := (u - 1) % 26) (by omega)
      rw [lets_pos h]
      refine ⟨by rw [List.all_append, h1]; simp [low]; omega, by rw [sval_snoc, h2, e]; omega⟩
theorem lets_len (k : Nat) : ∀ u, u < (26 ^ (k + 1) - 1) / 25 → (lets u).length ≤ k := by
  induction k with
  | zero => intro u h; have : u = 0 := by simp at h; omega
            subst this; rw [lets_zero]; simp
  | succ k ih =>
    intro u h
    by_cases h0 : u = 0
    · subst h0; rw [lets_zero]; simp
    · rw [lets_pos h0, List.length_append]
      have h1 : 25 * ((26 ^ (k + 1) - 1) / 25) = 26 ^ (k + 1) - 1 := by
        have : 26 ^ (k + 1) % 25 = 1 := by rw [Nat.pow_mod]; simp
        omega
      have h2 : 25 * ((26 ^ (k + 1 + 1) - 1) / 25) = 26 ^ (k + 1 + 1) - 1 := by
        have : 26 ^ (k + 1 + 1) % 25 = 1 := by rw [Nat.pow_mod]; simp
        omega
      have h3 : 26 ^ (k + 1 + 1) = 26 * 26 ^ (k + 1) := by rw [Nat.pow_succ (n := 26) (m := k + 1)]; exact Nat.mul_comm _ _
      have := ih ((u - 1) / 26) (by omega)
      simp; omega

/-! ### Numbers of a citation -/
def numP (l : List UInt8) : Option Nat := if 1 ≤ l.length ∧ l.length ≤ 3 ∧ l.all dig = true ∧ (l.head? = some 48 → l.length = 1) then some (dval 0 l) else none
theorem numP_dec {n : Nat} (h : n < 1000) : numP (Lib.decDigits n) = some n := by
  obtain ⟨h1, h2, h3, h4⟩ := dec_all n
  have hl : (Lib.decDigits n).length ≤ 3 := by
    rw [Lib.decDigits_length]
    by_cases h10 : n < 10
    · rw [Lib.nDigits_small h10]; omega
    · rw [Lib.nDigits_big h10]
      by_cases h100 : n / 10 < 10
      · rw [Lib.nDigits_small h100]; omega
      · rw [Lib.nDigits_big h100, Lib.nDigits_small (by omega)]; omega
  unfold numP
  rw [if_pos, h2]
  refine ⟨?_, hl, h1, fun h5 => ?_⟩
  · cases hd : Lib.decDigits n with
    | nil => exact absurd hd h3
    | cons => simp
  · by_cases h0 : 0 < n
    · exact absurd h5 (h4 h0)
    · have : n = 0 := by omega
      subst this; rw [dec_small (by omega)]; rfl
theorem numP_some {l : List UInt8} {n : Nat} (h : numP l = some n) : Lib.decDigits n = l ∧ n < 1000 ∧ l.length ≤ 3 ∧ l.all dig = true ∧ l ≠ [] := by
  unfold numP at h
  split at h
  · rename_i hc
    obtain ⟨h1, h2, h3, h4⟩ := hc
    injection h with h
    subst h
    have hne : l ≠ [] := by intro e; subst e; simp at h1
    have hlt := dval_lt l 0 h3
    have hp : 10 ^ l.length ≤ 10 ^ 3 := Nat.pow_le_pow_right (by decide) h2
    refine ⟨?_, by omega, h2, h3, hne⟩
    by_cases h5 : l.head? = some 48
    · have := h4 h5
      match l, this with
      | [c], _ => have hc : c = 48 := by simpa using h5
                  subst hc; exact dec_small (by decide)
    · exact (dec_of l h3 hne h5).1
  · cases h
theorem pu10 : ∀ (l : List UInt8) (a : Nat), l.all dig = true → dval a l < 1000000000 → a < 1000000000 → Lib.parseUint10 a l = .ok (dval a l)
  | [], a, _, _, _ => rfl
  | c :: l, a, h, hv, ha => by
    simp only [List.all_cons, Bool.and_eq_true] at h
    have hc := dig_iff.1 h.1
    have hle : ∀ (l : List UInt8) (a : Nat), a ≤ dval a l := by
      intro l; induction l with
      | nil => intro a; exact Nat.le_refl _
      | cons d l ih => intro a; rw [dval_cons]; exact Nat.le_trans (by omega) (ih (10 * a + (d.toNat - 48)))
    rw [dval_cons] at hv ⊢
    have h1 : 10 * a + (c.toNat - 48) ≤ dval (10 * a + (c.toNat - 48)) l := hle l _
    rw [Lib.parseUint10, if_pos hc, if_neg (by omega), if_neg (by omega), show a * 10 + (c.toNat - 48) = 10 * a + (c.toNat - 48) by omega, pu10 l _ h.2 hv (by omega)]
theorem atoi_num {l : List UInt8} {n : Nat} (h : numP l = some n) : Lib.atoiAll l = .ok (n : Int) := by
  obtain ⟨h1, h2, h3, h4, h5⟩ := numP_some h
  have hd : dval 0 l = n := by rw [← h1]; exact (dec_all n).2.1
  match l, h5, h4, hd with
  | c :: r, _, h4, hd =>
    have hc := dig_iff.1 (show dig c = true by simp only [List.all_cons, Bool.and_eq_true] at h4; exact h4.1)
    unfold Lib.atoiAll
    have h45 : ¬ c.toNat = 45 := by omega
    have h43 : ¬ c.toNat = 43 := by omega
    simp only [h45, h43, or_false, if_false]
    have hm : Lib.parseMag (c :: r) = .ok n := by
      unfold Lib.parseMag
      rw [if_neg (by simp), pu10 _ 0 h4 (by omega) (by omega), hd]
    rw [hm]
    simp
    omega
theorem numP_of {l : List UInt8} {n : Int} (h3 : l.length ≤ 3) (h2 : Lib.itoa n = l) (h0 : 0 ≤ n) : numP l = some n.toNat := by
  obtain ⟨k, rfl⟩ : ∃ k : Nat, n = k := ⟨n.toNat, by omega⟩
  have e : Lib.itoa (k : Int) = Lib.decDigits k := by unfold Lib.itoa; rw [if_neg (by omega)]; simp
  rw [e] at h2
  subst h2
  have hlt := dval_lt (Lib.decDigits k) 0 (dec_all k).1
  rw [(dec_all k).2.1] at hlt
  have hp : 10 ^ (Lib.decDigits k).length ≤ 10 ^ 3 := Nat.pow_le_pow_right (by decide) h3
  simpa using numP_dec (n := k) (by omega)

/-! ### Labels -/
/-- label.Parse, byte by byte. -/
def labGo (n m nu su : Nat) : List UInt8 → Option (Nat × Nat)
  | [] => if n = 0 then none else some (nu, su)
  | c :: r => if dig c = true ∧ m = 0 ∧ n < 5 ∧ (0 < n ∨ c ≠ 48) then labGo (n + 1) m (10 * nu + (c.toNat - 48)) su r
    else if low c = true ∧ 0 < n ∧ m < 4 then labGo n (m + 1) nu (26 * su + (c.toNat - 97) + 1) r else none
/-- The reference's Parse of a label. -/
def labP (l : List UInt8) : Option (Nat × Nat) :=
  if 1 ≤ (l.takeWhile dig).length ∧ (l.takeWhile dig).length ≤ 5 ∧ l.head? ≠ some 48 ∧ (l.dropWhile dig).length ≤ 4 ∧ (l.dropWhile dig).all low = true
  then some (dval 0 (l.takeWhile dig), sval 0 (l.dropWhile dig)) else none
theorem dig_low {c : UInt8} (h : low c = true) : dig c = false := by
  have := low_iff.1 h
  cases hd : dig c with
  | false => rfl
  | true => have := dig_iff.1 hd; omega
theorem labGo_lets : ∀ (l : List UInt8) (n m nu su : Nat), 0 < n → m ≤ 4 → (0 < m ∨ ∀ c, l.head? = some c → dig c = false) →
    labGo n m nu su l = if m + l.length ≤ 4 ∧ l.all low = true then some (nu, sval su l) else none
  | [], n, m, nu, su, hn, hm, _ => by
    unfold labGo
    rw [if_neg (by omega), if_pos ⟨by simpa using hm, rfl⟩]
    rfl
  | c :: l, n, m, nu, su, hn, hm, hd => by
    unfold labGo
    rw [if_neg (by rintro ⟨h1, h2, _⟩; rcases hd with hd | hd; · omega
                   · rw [hd c rfl] at h1; cases h1)]
    by_cases hlow : low c = true ∧ m < 4
    · rw [if_pos ⟨hlow.1, hn, hlow.2⟩, labGo_lets l n (m + 1) nu _ hn (by omega) (.inl (by omega))]
      simp only [List.length_cons, List.all_cons, hlow.1, Bool.true_and]
      rw [show m + 1 + l.length = m + (l.length + 1) by omega]
      rfl
    · rw [if_neg (fun h => hlow ⟨h.1, h.2.2⟩), if_neg]
      rintro ⟨h1, h2⟩
      simp only [List.length_cons, List.all_cons, Bool.and_eq_true] at h1 h2
      exact hlow ⟨h2.1, by omega⟩
theorem labGo_digs : ∀ (l : List UInt8) (n nu : Nat), 0 < n → n ≤ 5 →
    labGo n 0 nu 0 l = if n + (l.takeWhile dig).length ≤ 5 ∧ (l.dropWhile dig).length ≤ 4 ∧ (l.dropWhile dig).all low = true then some (dval nu (l.takeWhile dig), sval 0 (l.dropWhile dig)) else none
  | [], n, nu, hn, h5 => by
    unfold labGo
    rw [if_neg (by omega), if_pos ⟨by simpa using h5, by simp, rfl⟩]
    rfl
  | c :: l, n, nu, hn, h5 => by
    by_cases hc : dig c = true
    · rw [List.takeWhile_cons, List.dropWhile_cons]
      simp only [hc, if_true, List.length_cons]
      unfold labGo
      by_cases hn5 : n < 5
      · rw [if_pos ⟨hc, rfl, hn5, .inl hn⟩, labGo_digs l (n + 1) _ (by omega) (by omega), show n + 1 + (l.takeWhile dig).length = n + ((l.takeWhile dig).length + 1) by omega]
        rfl
      · rw [if_neg (fun h => hn5 h.2.2.1), if_neg (fun h => by rw [dig_low h.1] at hc; cases hc), if_neg (by omega)]
    · have hcf : dig c = false := by simpa using hc
      rw [labGo_lets (c :: l) n 0 nu 0 hn (by omega) (.inr (by simpa using hcf)), List.takeWhile_cons, List.dropWhile_cons]
      simp only [hcf, Bool.false_eq_true, if_false, List.length_nil, Nat.add_zero, Nat.zero_add, dval_nil, h5, true_and]
theorem labGo_labP (l : List UInt8) : labGo 0 0 0 0 l = labP l := by
  cases l with
  | nil => rfl
  | cons c l =>
    unfold labGo labP
    rw [List.takeWhile_cons, List.dropWhile_cons]
    by_cases hc : dig c = true
    · simp only [hc, if_true, List.length_cons, List.head?_cons]
      by_cases h48 : c = 48
      · subst h48
        rw [if_neg (by simp), if_neg (by simp), if_neg (by simp)]
      · rw [if_pos ⟨trivial, trivial, by omega, .inr h48⟩, labGo_digs l 1 _ (by omega) (by omega)]
        have e : (1 + (l.takeWhile dig).length ≤ 5 ∧ (l.dropWhile dig).length ≤ 4 ∧ (l.dropWhile dig).all low = true) ↔ (1 ≤ (l.takeWhile dig).length + 1 ∧ (l.takeWhile dig).length + 1 ≤ 5 ∧ some c ≠ some 48 ∧ (l.dropWhile dig).length ≤ 4 ∧ (l.dropWhile dig).all low = true) :=
          ⟨fun ⟨a, b⟩ => ⟨by omega, by omega, by simpa using h48, b⟩, fun ⟨_, a, _, b⟩ => ⟨by omega, b⟩⟩
        simp only [e, dval_cons]
    · have hcf : dig c = false := by simpa using hc
      simp only [hcf, Bool.false_eq_true, if_false, List.length_nil, false_and, Nat.lt_irrefl, and_false]
      rw [if_neg (by omega)]
theorem labP_text (n s : Nat) (hn : 1 ≤ n ∧ n ≤ 16384) (hs : s ≤ 16384) : labP (Lib.decDigits n ++ lets s) = some (n, s) := by
  obtain ⟨h1, h2, h3, h4⟩ := dec_all n
  obtain ⟨h5, h6⟩ := lets_all s
  have tw : (Lib.decDigits n ++ lets s).takeWhile dig = Lib.decDigits n ∧ (Lib.decDigits n ++ lets s).dropWhile dig = lets s := by
    have key : ∀ (a b : List UInt8), a.all dig = true → b.all low = true → (a ++ b).takeWhile dig = a ∧ (a ++ b).dropWhile dig = b := by
      intro a b ha hb
      induction a with
      | nil =>
        cases b with
        | nil => exact ⟨rfl, rfl⟩
        | cons c b =>
          simp only [List.all_cons, Bool.and_eq_true] at hb
          have := dig_low hb.1
          simp [this]
      | cons d a ih =>
        simp only [List.all_cons, Bool.and_eq_true] at ha
        have := ih ha.2
        simp [ha.1, this]
    exact key _ _ h1 h5
  have hl5 : (Lib.decDigits n).length ≤ 5 := by
    rw [Lib.decDigits_length]
    by_cases h : n < 10
    · rw [Lib.nDigits_small h]; omega
    · rw [Lib.nDigits_big h]
      by_cases h : n / 10 < 10
      · rw [Lib.nDigits_small h]; omega
      · rw [Lib.nDigits_big h]
        by_cases h : n / 10 / 10 < 10
        · rw [Lib.nDigits_small h]; omega
        · rw [Lib.nDigits_big h]
          by_cases h : n / 10 / 10 / 10 < 10
          · rw [Lib.nDigits_small h]; omega
          · rw [Lib.nDigits_big h, Lib.nDigits_small (by omega)]; omega
  have hl4 : (lets s).length ≤ 4 := lets_len 4 s (by omega)
  unfold labP
  rw [tw.1, tw.2, if_pos, h2, h6]
  refine ⟨?_, hl5, ?_, hl4, h5⟩
  · cases hd : Lib.decDigits n with
    | nil => exact absurd hd h3
    | cons => simp
  · have := h4 (by omega)
    cases hd : Lib.decDigits n with
    | nil => exact absurd hd h3
    | cons a l => rw [hd] at this; simpa using this
end
section
open Go

/-- The parts of a text that slashes separate. -/
def parts : List UInt8 → List (List UInt8)
  | [] => [[]]
  | c :: r => if c = 47 then [] :: parts r else match parts r with
    | [] => [[c]]
    | p :: q => (c :: p) :: q
def NoSl (a : List UInt8) : Prop := ∀ c ∈ a, c ≠ 47
theorem parts_no : ∀ (a : List UInt8), NoSl a → parts a = [a]
  | [], _ => rfl
  | c :: a, h => by
    have hc : c ≠ 47 := h c (by simp)
    rw [parts, if_neg hc, parts_no a (fun d hd => h d (by simp [hd]))]
theorem parts_cut : ∀ (a b : List UInt8), NoSl a → parts (a ++ 47 :: b) = a :: parts b
  | [], b, _ => by rw [List.nil_append, parts, if_pos rfl]
  | c :: a, b, h => by
    have hc : c ≠ 47 := h c (by simp)
    rw [List.cons_append, parts, if_neg hc, parts_cut a b (fun d hd => h d (by simp [hd]))]
/-- Every text has no slash, or a first one. -/
theorem sl_cases : ∀ (l : List UInt8), NoSl l ∨ ∃ a b, l = a ++ 47 :: b ∧ NoSl a
  | [] => .inl (fun _ h => by simp at h)
  | c :: l => by
    by_cases hc : c = 47
    · subst hc; exact .inr ⟨[], l, rfl, fun _ h => by simp at h⟩
    · rcases sl_cases l with h | ⟨a, b, rfl, h⟩
      · refine .inl (fun d hd => ?_)
        rcases List.mem_cons.1 hd with rfl | hd
        · exact hc
        · exact h d hd
      · refine .inr ⟨c :: a, b, rfl, fun d hd => ?_⟩
        rcases List.mem_cons.1 hd with rfl | hd
        · exact hc
        · exact h d hd
theorem idx_no : ∀ (a : List UInt8), NoSl a → Lib.index a [47] = -1
  | [], _ => rfl
  | c :: a, h => by
    have hc : c ≠ 47 := h c (by simp)
    have hc2 : ¬ (47 : UInt8) = c := fun e => hc e.symm
    rw [Lib.index, idx_no a (fun d hd => h d (by simp [hd]))]
    simp [hc2]
theorem idx_cut : ∀ (a b : List UInt8), NoSl a → Lib.index (a ++ 47 :: b) [47] = (a.length : Int)
  | [], b, _ => by rw [List.nil_append, Lib.index]; simp
  | c :: a, b, h => by
    have hc : c ≠ 47 := h c (by simp)
    have hc2 : ¬ (47 : UInt8) = c := fun e => hc e.symm
    rw [List.cons_append, Lib.index, idx_cut a b (fun d hd => h d (by simp [hd]))]
    have : ((a.length : Int) == -1) = false := by rw [beq_eq_false_iff_ne]; omega
    simp [hc2, this]
theorem cut_no {a : List UInt8} (h : NoSl a) : Lib.cut a [47] = (a, [], false) := by
  unfold Lib.cut; rw [idx_no a h, if_neg (by omega)]
theorem cut_yes {a b : List UInt8} (h : NoSl a) : Lib.cut (a ++ 47 :: b) [47] = (a, b, true) := by
  unfold Lib.cut
  rw [idx_cut a b h, if_pos (by omega)]
  simp

def ct0 : Ct := ⟨0, 0, 0, 0⟩
def mkCt (br n s li : Nat) : Ct := ⟨br, n, s, li⟩
/-- What is read out of the three parts. -/
def read3 (b m x : List UInt8) : Ct × Int :=
  match numP b, numP x, labP m with
  | some br, some li, some (n, s) => if citB (mkCt br n s li) then (mkCt br n s li, 0) else (ct0, 5)
  | _, _, _ => (ct0, 7)
/-- The citation with a text, and the error. -/
def parseP (l : List UInt8) : Ct × Int :=
  match parts l with
  | [b, m, x] => read3 b m x
  | _ => (ct0, 7)
theorem read3_b {b m x : List UInt8} (h : numP b = none) : read3 b m x = (ct0, 7) := by unfold read3; rw [h]
theorem read3_x {b m x : List UInt8} (h : numP x = none) : read3 b m x = (ct0, 7) := by unfold read3; rw [h]; cases numP b <;> rfl
theorem read3_m {b m x : List UInt8} (h : labP m = none) : read3 b m x = (ct0, 7) := by unfold read3; rw [h]; cases numP b <;> cases numP x <;> rfl
theorem read3_ok {b m x : List UInt8} {br li n s : Nat} (h1 : numP b = some br) (h2 : numP x = some li) (h3 : labP m = some (n, s)) :
    read3 b m x = if citB (mkCt br n s li) then (mkCt br n s li, 0) else (ct0, 5) := by unfold read3; rw [h1, h2, h3]
theorem numP_noSl {l : List UInt8} {n : Nat} (h : numP l = some n) : NoSl l := fun c hc e => by
  have := List.all_eq_true.1 (numP_some h).2.2.2.1 c hc
  subst e; cases this
theorem numP_sl {a b : List UInt8} : numP (a ++ 47 :: b) = none := by
  cases h : numP (a ++ 47 :: b) with
  | none => rfl
  | some n => exact absurd rfl (numP_noSl h 47 (by simp))
/-- What the program does with its two cuts. -/
theorem parse_cuts (l b r m x : List UInt8) (f g : Bool) (h1 : Lib.cut l [47] = (b, r, f)) (h2 : Lib.cut r [47] = (m, x, g)) :
    parseP l = if f = true ∧ g = true then read3 b m x else (ct0, 7) := by
  rcases sl_cases l with h | ⟨a, t, rfl, h⟩
  · rw [cut_no h] at h1
    injection h1 with e1 e2; injection e2 with e2 e3
    subst e3
    unfold parseP; rw [parts_no l h, if_neg (by simp)]
  · rw [cut_yes h] at h1
    injection h1 with e1 e2; injection e2 with e2 e3
    subst e1 e2 e3
    unfold parseP; rw [parts_cut a t h]
    rcases sl_cases t with h' | ⟨a', t', rfl, h'⟩
    · rw [cut_no h'] at h2
      injection h2 with e1 e2; injection e2 with e2 e3
      subst e3
      rw [parts_no t h', if_neg (by simp)]
    · rw [cut_yes h'] at h2
      injection h2 with e1 e2; injection e2 with e2 e3
      subst e1 e2 e3
      rw [parts_cut a' t' h', if_pos (by simp)]
      rcases sl_cases t' with h'' | ⟨a'', t'', rfl, h''⟩
      · rw [parts_no t' h'']
      · rw [parts_cut a'' t'' h'', read3_x numP_sl]
        cases hp : parts t'' with
        | nil => cases t'' with
          | nil => simp [parts] at hp
          | cons c t'' => rw [parts] at hp; split at hp
                          · simp at hp
                          · split at hp <;> simp at hp
        | cons => rfl

/-- The text of a citation. -/
def textPC (c : Ct) : List UInt8 := if citB c then Lib.decDigits c.br.toNat ++ (47 :: (Lib.decDigits c.nu.toNat ++ lets c.su.toNat ++ (47 :: Lib.decDigits c.li.toNat))) else []
theorem citB_cases {c : Ct} (h : citB c = true) : 0 ≤ c.br ∧ c.br < 256 ∧ 1 ≤ c.li ∧ c.li ≤ 100 ∧ 1 ≤ c.nu ∧ c.nu ≤ 16384 ∧ 0 ≤ c.su ∧ c.su ≤ 16384 := by
  simpa [citB, labB, and_assoc] using h
theorem noSl_all {p : UInt8 → Bool} {l : List UInt8} (h : l.all p = true) (h47 : p 47 = false) : NoSl l := fun c hc e => by
  have := List.all_eq_true.1 h c hc
  subst e; rw [h47] at this; cases this
theorem NoSl.append {a b : List UInt8} (h : NoSl a) (k : NoSl b) : NoSl (a ++ b) := fun c hc => by
  rcases List.mem_append.1 hc with hc | hc
  · exact h c hc
  · exact k c hc
theorem parse_text {c : Ct} (h : citB c = true) : parseP (textPC c) = (c, 0) := by
  obtain ⟨h1, h2, h3, h4, h5, h6, h7, h8⟩ := citB_cases h
  obtain ⟨br, nu, su, li⟩ := c
  obtain ⟨br, rfl⟩ : ∃ k : Nat, br = k := ⟨br.toNat, by simp at h1; omega⟩
  obtain ⟨nu, rfl⟩ : ∃ k : Nat, nu = k := ⟨nu.toNat, by simp at h5; omega⟩
  obtain ⟨su, rfl⟩ : ∃ k : Nat, su = k := ⟨su.toNat, by simp at h7; omega⟩
  obtain ⟨li, rfl⟩ : ∃ k : Nat, li = k := ⟨li.toNat, by simp at h3; omega⟩
  simp only at h1 h2 h3 h4 h5 h6 h7 h8
  unfold textPC
  rw [if_pos h]
  simp only [Int.toNat_natCast]
  unfold parseP
  rw [parts_cut _ _ (noSl_all (dec_all br).1 rfl), parts_cut _ _ (NoSl.append (noSl_all (dec_all nu).1 rfl) (noSl_all (lets_all su).1 rfl)), parts_no _ (noSl_all (dec_all li).1 rfl)]
  show read3 _ _ _ = _
  rw [read3_ok (numP_dec (by omega)) (numP_dec (by omega)) (labP_text nu su (by omega) (by omega)), if_pos]
  · rfl
  · exact h
end
section
open Go Go.RowKit

def StrPost (s : List UInt8) (w : World) (e : Ending) (w' : World) : Prop := e = .returned (.string ⟨s.toArray⟩) ∧ Ext w w'
theorem itoa_nat (n : Nat) : Lib.itoa (n : Int) = Lib.decDigits n := by unfold Lib.itoa; rw [if_neg (by omega)]; simp
theorem itoa_any (n : Nat) (w : World) (hn : n ≤ 100000) (htab : Tab w) : Calls Tryz.prog 102 #[.int .i64 n] w (StrPost (Lib.decDigits n) w) := by
  refine (Tryz.strconv_Itoa (n : Int) (by omega) (by omega) w (htab w (Ext.refl w))).mono ?_
  rintro e w2 ⟨rfl, k9, os, rfl⟩
  exact ⟨by rw [itoa_nat], Lib.below_grow _ _ (Nat.le_refl _) k9 os⟩
theorem dec_len (n : Nat) (hn : n ≤ 100000) : (⟨(Lib.decDigits n).toArray⟩ : ByteArray).size ≤ 100 := by
  have h21 := Lib.itoa_length_le (n : Int) (by omega) (by omega)
  rw [itoa_nat] at h21
  show (Lib.decDigits n).toArray.size ≤ 100
  simp; omega
theorem lets_size (s : Nat) (hs : s ≤ 16384) : (lets s).length ≤ 4 := lets_len 4 s (by omega)
theorem lab_len (n s : Nat) (hn : n ≤ 100000) (hs : s ≤ 16384) : (⟨(Lib.decDigits n ++ lets s).toArray⟩ : ByteArray).size ≤ 200 := by
  have h1 := dec_len n hn
  have h2 := lets_size s hs
  have h3 : (Lib.decDigits n).length ≤ 100 := h1
  show (Lib.decDigits n ++ lets s).toArray.size ≤ 200
  simp; omega
theorem text_bytes (a b d : List UInt8) : (⟨a.toArray⟩ : ByteArray) ++ ⟨#[47]⟩ ++ ⟨b.toArray⟩ ++ ⟨#[47]⟩ ++ ⟨d.toArray⟩ = ⟨(a ++ (47 :: (b ++ (47 :: d)))).toArray⟩ := by
  rw [show (⟨#[47]⟩ : ByteArray) = ⟨[47].toArray⟩ from rfl]
  simp only [ba_append]
  simp
theorem ext_cells {w w1 : World} (hx : Ext w w1) {b : Nat} (hb : b < w.heap.size) {v0 v1 v2 v3 : Value} (h : w.cell? ⟨b, 0, none⟩ = some v0 ∧ w.cell? ⟨b, 1, none⟩ = some v1 ∧ w.cell? ⟨b, 2, none⟩ = some v2 ∧ w.cell? ⟨b, 3, none⟩ = some v3) :
    w1.cell? ⟨b, 0, none⟩ = some v0 ∧ w1.cell? ⟨b, 1, none⟩ = some v1 ∧ w1.cell? ⟨b, 2, none⟩ = some v2 ∧ w1.cell? ⟨b, 3, none⟩ = some v3 := by
  obtain ⟨q, _⟩ := hx.cells
  simpa [q _ _ hb] using h

set_option maxRecDepth 100000 in
theorem ctext_any (c : Ct) (w : World) (htab : Tab w) : Calls Tryz.prog 50 #[c.val] w (StrPost (textPC c) w) := by
  cases hc : citB c with
  | false =>
    have ht : textPC c = [] := by unfold textPC; rw [hc]; rfl
    have HT := Lib.hid ht
    have HC := Lib.hid hc
    clear ht hc htab
    unfold Ct.val
    go_enter Tryz.func50, Tryz.ntmps50
    go_wp2_with (first | (go_at_call 104; refine (valid_any c _).mono ?_; rintro e w1 ⟨rfl, hx⟩; rw [HC.out]))
    go_ret
    exact ⟨congrArg (fun z => Ending.returned (.string z)) (by rw [HT.out]), ((Ext.refl _).alloc _).trans hx⟩
  | true =>
    obtain ⟨h1, h2, h3, h4, h5, h6, h7, h8⟩ := citB_cases hc
    obtain ⟨br, nu, su, li⟩ := c
    obtain ⟨br, rfl⟩ : ∃ k : Nat, br = k := ⟨br.toNat, by simp at h1; omega⟩
    obtain ⟨nu, rfl⟩ : ∃ k : Nat, nu = k := ⟨nu.toNat, by simp at h5; omega⟩
    obtain ⟨su, rfl⟩ : ∃ k : Nat, su = k := ⟨su.toNat, by simp at h7; omega⟩
    obtain ⟨li, rfl⟩ : ∃ k : Nat, li = k := ⟨li.toNat, by simp at h3; omega⟩
    simp only at h1 h2 h3 h4 h5 h6 h7 h8
    have ht : textPC ⟨br, nu, su, li⟩ = Lib.decDigits br ++ (47 :: (Lib.decDigits nu ++ lets su ++ (47 :: Lib.decDigits li))) := by
      unfold textPC; rw [if_pos hc]; simp only [Int.toNat_natCast]
    have HT := Lib.hid ht
    have HC := Lib.hid hc
    obtain ⟨S1, e1⟩ : ∃ S : ByteArray, S = ⟨(Lib.decDigits br).toArray⟩ := ⟨_, rfl⟩
    obtain ⟨S2, e2⟩ : ∃ S : ByteArray, S = ⟨(Lib.decDigits nu ++ lets su).toArray⟩ := ⟨_, rfl⟩
    obtain ⟨S3, e3⟩ : ∃ S : ByteArray, S = ⟨(Lib.decDigits li).toArray⟩ := ⟨_, rfl⟩
    have hl1 : S1.size ≤ 100 := e1 ▸ dec_len br (by omega)
    have hl2 : S2.size ≤ 200 := e2 ▸ lab_len nu su (by omega) (by omega)
    have hl3 : S3.size ≤ 100 := e3 ▸ dec_len li (by omega)
    have HI1 := Lib.hid (fun (W : World) (hW : Ext w W) => (show Calls Tryz.prog 102 #[.int .i64 br] W (fun e w' => e = .returned (.string S1) ∧ Ext W w') from e1 ▸ itoa_any br W (by omega) (htab.ext hW)))
    have HI2 := Lib.hid (fun (W : World) (hW : Ext w W) => (show Calls Tryz.prog 105 #[.agg #[.int .i64 nu, .int .i64 su]] W (fun e w' => e = .returned (.string S2) ∧ Ext W w') from e2 ▸ ltext_any nu su W (by omega) (by omega) (htab.ext hW)))
    have HI3 := Lib.hid (fun (W : World) (hW : Ext w W) => (show Calls Tryz.prog 102 #[.int .i64 li] W (fun e w' => e = .returned (.string S3) ∧ Ext W w') from e3 ▸ itoa_any li W (by omega) (htab.ext hW)))
    have HE := Lib.hid (show S1 ++ ⟨#[47]⟩ ++ S2 ++ ⟨#[47]⟩ ++ S3 = ⟨(Lib.decDigits br ++ (47 :: (Lib.decDigits nu ++ lets su ++ (47 :: Lib.decDigits li)))).toArray⟩ by rw [e1, e2, e3]; exact text_bytes _ _ _)
    clear ht hc htab e1 e2 e3
    unfold Ct.val
    go_enter Tryz.func50, Tryz.ntmps50
    go_wp2_with (first | (go_at_call 104; refine (valid_any ⟨br, nu, su, li⟩ _).mono ?_; rintro e w1 ⟨rfl, hx⟩; rw [HC.out]; obtain ⟨q, p⟩ := hx.cells; have hz : w.heap.size < w1.heap.size := (by have a1 := hx.lt; simp at a1; omega)))
    have hx0 : Ext w w1 := ((Ext.refl w).alloc _).trans hx
    have hx0 := hx0.drew
    have hs1 : ¬ 9223372036854775807 < S1.size + 1 := by omega
    have hs2 : ¬ 9223372036854775807 < S1.size + 1 + S2.size := by omega
    have hs3 : ¬ 9223372036854775807 < S1.size + 1 + S2.size + 1 := by omega
    have hs4 : ¬ 9223372036854775807 < S1.size + 1 + S2.size + 1 + S3.size := by omega
    have c0 := ext_cells hx (b := w.heap.size) (by simp) (v0 := .int .i64 br) (v1 := .int .i64 nu) (v2 := .int .i64 su) (v3 := .int .i64 li) (by go_simp)
    go_region_held3 (fun W => W.cell? ⟨w.heap.size, 0, none⟩ = some (.int .i64 br) ∧ W.cell? ⟨w.heap.size, 1, none⟩ = some (.int .i64 nu) ∧ W.cell? ⟨w.heap.size, 2, none⟩ = some (.int .i64 su) ∧ W.cell? ⟨w.heap.size, 3, none⟩ = some (.int .i64 li))
      (first | exact c3 | exact c2 | exact c1 | go_keep)
      (first
        | (go_at_call 102; refine (HI1.out _ ?_).mono ?_; exact hx0; rintro e w2 ⟨rfl, hx2⟩; have c1 := ext_cells hx2 (b := w.heap.size) hz c0; have hz2 : w.heap.size < w2.heap.size := Nat.lt_of_lt_of_le hz hx2.lt)
        | (go_at_call 105; refine (HI2.out _ ?_).mono ?_; exact hx0.trans hx2; rintro e w3 ⟨rfl, hx3⟩; have c2 := ext_cells hx3 (b := w.heap.size) hz2 c1; have hz3 : w.heap.size < w3.heap.size := Nat.lt_of_lt_of_le hz2 hx3.lt)
        | (go_at_call 102; refine (HI3.out _ ?_).mono ?_; exact (hx0.trans hx2).trans hx3; rintro e w4 ⟨rfl, hx4⟩; have c3 := ext_cells hx4 (b := w.heap.size) hz3 c2))
    go_wp2
    go_ret
    exact ⟨congrArg (fun z => Ending.returned (.string z)) (by rw [HT.out]; exact HE.out), ((hx0.trans hx2).trans hx3).trans hx4⟩
end
section
open Go Go.RowKit

theorem lcut1_any (s : ByteArray) (hs : s.size ≤ 281474976710656) (w : World) :
    Calls Tryz.prog 134 #[.string s, .string ⟨#[47]⟩] w fun e w' => e = .returned (.tuple #[.string ⟨(Lib.cut s.data.toList [47]).1.toArray⟩, .string ⟨(Lib.cut s.data.toList [47]).2.1.toArray⟩, .bool (Lib.cut s.data.toList [47]).2.2]) ∧ ∃ n, w' = w.drewN n := by
  rcases Lib.indexB_cases s ⟨#[47]⟩ with hix | ⟨i, hix, hroom⟩
  · obtain ⟨e1, e2, e3⟩ := Lib.cutB_miss s ⟨#[47]⟩ hix
    have h1 : Lib.indexByte s.data.toList 47 = -1 := by rw [← Lib.index_one]; exact hix
    rw [e1, e2, e3]
    have H1 := Lib.hid h1
    clear hix e1 e2 e3 h1
    go_enter Tryz.func134, Tryz.ntmps134
    go_wp2_with (go_at_call 151; refine (Tryz.stringslite_Index_one s 47 _).mono ?_; rintro e w' ⟨rfl, rfl⟩; rw [H1.out])
    go_ret3
    exact ⟨rfl, 0, rfl⟩
  · obtain ⟨e1, e2, e3⟩ := Lib.cutB_hit s ⟨#[47]⟩ i hix
    have h1 : Lib.indexByte s.data.toList 47 = i := by rw [← Lib.index_one]; exact hix
    have hr : i + 1 ≤ s.size := hroom
    rw [e1, e2, e3]
    have H1 := Lib.hid h1
    have c1 : (0 : Int) ≤ ↑i := by omega
    have c2 : (↑i : Int) ≤ ↑s.size := by omega
    have c3 : (0 : Int) ≤ ↑i + 1 := by omega
    have c4 : (↑i + 1 : Int) ≤ ↑s.size := by omega
    have hw1 : IntKind.i64.wrap ((i : Int) + 1) = (i : Int) + 1 := IntWalk.i64_in _ (by omega)
    have hn1 : ((i : Int) + 1).toNat = i + 1 := by omega
    clear hix e1 e2 e3 h1 hroom
    go_enter Tryz.func134, Tryz.ntmps134
    go_wp2_with (go_at_call 151; refine (Tryz.stringslite_Index_one s 47 _).mono ?_; rintro e w' ⟨rfl, rfl⟩; rw [H1.out])
    go_region
    go_wp2
    go_ret3
    exact ⟨rfl, _, rfl⟩
/-- What a cut at the slash gives. -/
def CutIs (s : ByteArray) (a b : List UInt8) (f : Bool) : Prop := Lib.cut s.data.toList [47] = (a, b, f)
theorem cut1_any (s : ByteArray) (hs : s.size ≤ 281474976710656) (w : World) (a b : List UInt8) (f : Bool) (h : CutIs s a b f) :
    Calls Tryz.prog 99 #[.string s, .string ⟨#[47]⟩] w fun e w' => e = .returned (.tuple #[.string ⟨a.toArray⟩, .string ⟨b.toArray⟩, .bool f]) ∧ Ext w w' := by
  have HL := lcut1_any s hs
  rw [h] at HL
  have H := Lib.hid HL
  clear HL h
  go_enter Tryz.func99, Tryz.ntmps99
  go_wp2_with (go_at_call 134; refine (H.out _).mono ?_; rintro e w' ⟨rfl, n, rfl⟩)
  go_ret3
  exact ⟨rfl, (Ext.refl _).drewN _⟩
end
end Go.Proofs.YtdbnddmncbjobaaGreatDoor