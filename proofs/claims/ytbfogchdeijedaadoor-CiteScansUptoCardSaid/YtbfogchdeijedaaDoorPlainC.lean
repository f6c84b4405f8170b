/- Plain law: the text of a citation, and how it is read; no walk in sight. -/
import Derived.Test.YtbfogchdeijedaaDoorPlain
namespace Go.Proofs.YtbfogchdeijedaaDoor
open Go

/-- The parts of a text that slashes separate. -/
def parts : List UInt8 → List (List UInt8)
  | [] => [[]]
  | c :: r => if c = 47 then [] :: parts r else match parts r with
    | [] => [[c]]
    | p :: q => (c :: p) :: q
def NoSl (a : List UInt8) : Prop := ∀ c ∈ a, c ≠ 47
theorem parts_no : ∀ (a : List UInt8), NoSl a → parts a = [a]
  | [], _ => rfl
  | c :: a, h => by
    have hc : c ≠ 47 := h c (by simp)
    rw [parts, if_neg hc, parts_no a (fun d hd => h d (by simp [hd]))]
theorem parts_cut : ∀ (a b : List UInt8), NoSl a → parts (a ++ 47 :: b) = a :: parts b
  | [], b, _ => by rw [List.nil_append, parts, if_pos rfl]
  | c :: a, b, h => by
    have hc : c ≠ 47 := h c (by simp)
    rw [List.cons_append, parts, if_neg hc, parts_cut a b (fun d hd => h d (by simp [hd]))]
/-- Every text has no slash, or a first one. -/
theorem sl_cases : ∀ (l : List UInt8), NoSl l ∨ ∃ a b, l = a ++ 47 :: b ∧ NoSl a
  | [] => .inl (fun _ h => by simp at h)
  | c :: l => by
    by_cases hc : c = 47
    · subst hc; exact .inr ⟨[], l, rfl, fun _ h => by simp at h⟩
    · rcases sl_cases l with h | ⟨a, b, rfl, h⟩
      · refine .inl (fun d hd => ?_)
        rcases List.mem_cons.1 hd with rfl | hd
        · exact hc
        · exact h d hd
      · refine .inr ⟨c :: a, b, rfl, fun d hd => ?_⟩
        rcases List.mem_cons.1 hd with rfl | hd
        · exact hc
        · exact h d hd
theorem idx_no : ∀ (a : List UInt8), NoSl a → Lib.index a [47] = -1
  | [], _ => rfl
  | c :: a, h => by
    have hc : c ≠ 47 := h c (by simp)
    have hc2 : ¬ (47 : UInt8) = c := fun e => hc e.symm
    rw [Lib.index, idx_no a (fun d hd => h d (by simp [hd]))]
    simp [hc2]
theorem idx_cut : ∀ (a b : List UInt8), NoSl a → Lib.index (a ++ 47 :: b) [47] = (a.length : Int)
  | [], b, _ => by rw [List.nil_append, Lib.index]; simp
  | c :: a, b, h => by
    have hc : c ≠ 47 := h c (by simp)
    have hc2 : ¬ (47 : UInt8) = c := fun e => hc e.symm
    rw [List.cons_append, Lib.index, idx_cut a b (fun d hd => h d (by simp [hd]))]
    have : ((a.length : Int) == -1) = false := by rw [beq_eq_false_iff_ne]; omega
    simp [hc2, this]
theorem cut_no {a : List UInt8} (h : NoSl a) : Lib.cut a [47] = (a, [], false) := by
  unfold Lib.cut; rw [idx_no a h, if_neg (by omega)]
theorem cut_yes {a b : List UInt8} (h : NoSl a) : Lib.cut (a ++ 47 :: b) [47] = (a, b, true) := by
  unfold Lib.cut
  rw [idx_cut a b h, if_pos (by omega)]
  simp

def ct0 : Ct := ⟨0, 0, 0, 0⟩
def mkCt (br n s li : Nat) : Ct := ⟨br, n, s, li⟩
/-- What is read out of the three parts. -/
def read3 (b m x : List UInt8) : Ct × Int :=
  match numP b, numP x, labP m with
  | some br, some li, some (n, s) => if citB (mkCt br n s li) then (mkCt br n s li, 0) else (ct0, 5)
  | _, _, _ => (ct0, 7)
/-- The citation with a text, and the error. -/
def parseP (l : List UInt8) : Ct × Int :=
  match parts l with
  | [b, m, x] => read3 b m x
  | _ => (ct0, 7)
theorem read3_b {b m x : List UInt8} (h : numP b = none) : read3 b m x = (ct0, 7) := by unfold read3; rw [h]
theorem read3_x {b m x : List UInt8} (h : numP x = none) : read3 b m x = (ct0, 7) := by unfold read3; rw [h]; cases numP b <;> rfl
theorem read3_m {b m x : List UInt8} (h : labP m = none) : read3 b m x = (ct0, 7) := by unfold read3; rw [h]; cases numP b <;> cases numP x <;> rfl
theorem read3_ok {b m x : List UInt8} {br li n s : Nat} (h1 : numP b = some br) (h2 : numP x = some li) (h3 : labP m = some (n, s)) :
    read3 b m x = if citB (mkCt br n s li) then (mkCt br n s li, 0) else (ct0, 5) := by unfold read3; rw [h1, h2, h3]
theorem numP_noSl {l : List UInt8} {n : Nat} (h : numP l = some n) : NoSl l := fun c hc e => by
  have := List.all_eq_true.1 (numP_some h).2.2.2.1 c hc
  subst e; cases this
theorem numP_sl {a b : List UInt8} : numP (a ++ 47 :: b) = none := by
  cases h : numP (a ++ 47 :: b) with
  | none => rfl
  | some n => exact absurd rfl (numP_noSl h 47 (by simp))
/-- What the program does with its two cuts. -/
theorem parse_cuts (l b r m x : List UInt8) (f g : Bool) (h1 : Lib.cut l [47] = (b, r, f)) (h2 : Lib.cut r [47] = (m, x, g)) :
    parseP l = if f = true ∧ g = true then read3 b m x else (ct0, 7) := by
  rcases sl_cases l with h | ⟨a, t, rfl, h⟩
  · rw [cut_no h] at h1
    injection h1 with e1 e2; injection e2 with e2 e3
    subst e3
    unfold parseP; rw [parts_no l h, if_neg (by simp)]
  · rw [cut_yes h] at h1
    injection h1 with e1 e2; injection e2 with e2 e3
    subst e1 e2 e3
    unfold parseP; rw [parts_cut a t h]
    rcases sl_cases t with h' | ⟨a', t', rfl, h'⟩
    · rw [cut_no h'] at h2
      injection h2 with e1 e2; injection e2 with e2 e3
      subst e3
      rw [parts_no t h', if_neg (by simp)]
    · rw [cut_yes h'] at h2
      injection h2 with e1 e2; injection e2 with e2 e3
      subst e1 e2 e3
      rw [parts_cut a' t' h', if_pos (by simp)]
      rcases sl_cases t' with h'' | ⟨a'', t'', rfl, h''⟩
      · rw [parts_no t' h'']
      · rw [parts_cut a'' t'' h'', read3_x numP_sl]
        cases hp : parts t'' with
        | nil => cases t'' with
          | nil => simp [parts] at hp
          | cons c t'' => rw [parts] at hp; split at hp
                          · simp at hp
                          · split at hp <;> simp at hp
        | cons => rfl

/-- The text of a citation. -/
def textP (c : Ct) : List UInt8 := if citB c then Lib.decDigits c.br.toNat ++ (47 :: (Lib.decDigits c.nu.toNat ++ lets c.su.toNat ++ (47 :: Lib.decDigits c.li.toNat))) else []
theorem citB_cases {c : Ct} (h : citB c = true) : 0 ≤ c.br ∧ c.br < 256 ∧ 1 ≤ c.li ∧ c.li ≤ 100 ∧ 1 ≤ c.nu ∧ c.nu ≤ 16384 ∧ 0 ≤ c.su ∧ c.su ≤ 16384 := by
  simpa [citB, labB, and_assoc] using h
theorem noSl_all {p : UInt8 → Bool} {l : List UInt8} (h : l.all p = true) (h47 : p 47 = false) : NoSl l := fun c hc e => by
  have := List.all_eq_true.1 h c hc
  subst e; rw [h47] at this; cases this
theorem NoSl.append {a b : List UInt8} (h : NoSl a) (k : NoSl b) : NoSl (a ++ b) := fun c hc => by
  rcases List.mem_append.1 hc with hc | hc
  · exact h c hc
  · exact k c hc
theorem parse_text {c : Ct} (h : citB c = true) : parseP (textP c) = (c, 0) := by
  obtain ⟨h1, h2, h3, h4, h5, h6, h7, h8⟩ := citB_cases h
  obtain ⟨br, nu, su, li⟩ := c
  obtain ⟨br, rfl⟩ : ∃ k : Nat, br = k := ⟨br.toNat, by simp at h1; omega⟩
  obtain ⟨nu, rfl⟩ : ∃ k : Nat, nu = k := ⟨nu.toNat, by simp at h5; omega⟩
  obtain ⟨su, rfl⟩ : ∃ k : Nat, su = k := ⟨su.toNat, by simp at h7; omega⟩
  obtain ⟨li, rfl⟩ : ∃ k : Nat, li = k := ⟨li.toNat, by simp at h3; omega⟩
  simp only at h1 h2 h3 h4 h5 h6 h7 h8
  unfold textP
  rw [if_pos h]
  simp only [Int.toNat_natCast]
  unfold parseP
  rw [parts_cut _ _ (noSl_all (dec_all br).1 rfl), parts_cut _ _ (NoSl.append (noSl_all (dec_all nu).1 rfl) (noSl_all (lets_all su).1 rfl)), parts_no _ (noSl_all (dec_all li).1 rfl)]
  show read3 _ _ _ = _
  rw [read3_ok (numP_dec (by omega)) (numP_dec (by omega)) (labP_text nu su (by omega) (by omega)), if_pos]
  · rfl
  · exact h
theorem parts_join : ∀ (l b m x : List UInt8), parts l = [b, m, x] → l = b ++ (47 :: (m ++ (47 :: x))) := by
  have key : ∀ (l : List UInt8), l = (parts l).headD [] ++ ((parts l).tail.map (fun p => 47 :: p)).flatten ∧ parts l ≠ [] := by
    intro l
    induction l with
    | nil => exact ⟨rfl, by simp [parts]⟩
    | cons c l ih =>
      rw [parts]
      split
      · rename_i hc
        subst hc
        refine ⟨?_, by simp⟩
        cases hp : parts l with
        | nil => exact absurd hp ih.2
        | cons p q => have := ih.1; rw [hp] at this; simpa using this
      · cases hp : parts l with
        | nil => exact absurd hp ih.2
        | cons p q => have := ih.1; rw [hp] at this; exact ⟨by simpa using this, by simp⟩
  intro l b m x h
  have := (key l).1
  rw [h] at this
  simpa using this
theorem text_parse {l : List UInt8} {c : Ct} (h : parseP l = (c, 0)) : textP c = l ∧ citB c = true := by
  unfold parseP at h
  split at h
  · rename_i b m x hp
    have hl := parts_join l b m x hp
    cases hb : numP b with
    | none => rw [read3_b hb] at h; cases h
    | some br =>
      cases hx : numP x with
      | none => rw [read3_x hx] at h; cases h
      | some li =>
        cases hm : labP m with
        | none => rw [read3_m hm] at h; cases h
        | some ns =>
          obtain ⟨n, s⟩ := ns
          rw [read3_ok hb hx hm] at h
          split at h
          · rename_i hc
            injection h with h _
            subst h
            refine ⟨?_, hc⟩
            unfold textP
            rw [if_pos hc]
            simp only [mkCt, Int.toNat_natCast]
            rw [(numP_some hb).1, (numP_some hx).1, labP_some hm, ← hl]
          · cases h
  · cases h
theorem parse_cases (l : List UInt8) : (parseP l = (ct0, 7) ∨ parseP l = (ct0, 5)) ∨ ∃ c, parseP l = (c, 0) ∧ citB c = true := by
  unfold parseP
  split
  · rename_i b m x hp
    cases hb : numP b with
    | none => exact .inl (.inl (read3_b hb))
    | some br =>
      cases hx : numP x with
      | none => exact .inl (.inl (read3_x hx))
      | some li =>
        cases hm : labP m with
        | none => exact .inl (.inl (read3_m hm))
        | some ns =>
          obtain ⟨n, s⟩ := ns
          rw [read3_ok hb hx hm]
          split
          · rename_i hc; exact .inr ⟨_, rfl, hc⟩
          · exact .inl (.inr rfl)
  · exact .inl (.inl rfl)
end Go.Proofs.YtbfogchdeijedaaDoor
