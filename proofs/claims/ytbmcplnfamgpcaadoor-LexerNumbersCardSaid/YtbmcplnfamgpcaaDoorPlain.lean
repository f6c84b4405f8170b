/- Plain law: what a source's tokens are; no walk in sight. -/
namespace Go.Proofs.YtbmcplnfamgpcaaDoor
open Go

def dig (c : UInt8) : Bool := decide (48 ≤ c.toNat) && decide (c.toNat ≤ 57)
def low (c : UInt8) : Bool := decide (97 ≤ c.toNat) && decide (c.toNat ≤ 122)
def wch (c : UInt8) : Bool := low c || dig c
def blk (c : UInt8) : Bool := decide (c = 9) || (decide (c = 10) || (decide (c = 13) || decide (c = 32)))
theorem dig_iff {c : UInt8} : dig c = true ↔ 48 ≤ c.toNat ∧ c.toNat ≤ 57 := by simp [dig]
theorem low_iff {c : UInt8} : low c = true ↔ 97 ≤ c.toNat ∧ c.toNat ≤ 122 := by simp [low]
def dstep (a : Nat) (c : UInt8) : Nat := 10 * a + (c.toNat - 48)
/-- The value of digits behind a number. -/
def dval (a : Nat) (l : List UInt8) : Nat := l.foldl dstep a
theorem dval_nil (a : Nat) : dval a [] = a := rfl
theorem dval_cons (a : Nat) (c : UInt8) (l : List UInt8) : dval a (c :: l) = dval (10 * a + (c.toNat - 48)) l := by simp only [dval, List.foldl_cons, dstep]
theorem dval_snoc (l : List UInt8) (a : Nat) (c : UInt8) : dval a (l ++ [c]) = 10 * dval a l + (c.toNat - 48) := by
  simp only [dval, List.foldl_append, List.foldl_cons, List.foldl_nil, dstep]

/-! ### Days -/
def leap (y : Nat) : Bool := decide (y % 4 = 0) && (!decide (y % 100 = 0) || decide (y % 400 = 0))
def mlen (y m : Nat) : Nat :=
  if m = 2 then (if leap y then 29 else 28) else if m = 4 ∨ m = 6 ∨ m = 9 ∨ m = 11 then 30 else if 1 ≤ m ∧ m ≤ 12 then 31 else 0
def dateB (y m d : Nat) : Bool := decide (1 ≤ y) && (decide (y ≤ 9999) && (decide (1 ≤ m) && (decide (m ≤ 12) && (decide (1 ≤ d) && decide (d ≤ mlen y m)))))
/-- The days of the months ahead of one. -/
def mdays (y : Nat) : Nat → Nat
  | 0 => 0
  | 1 => 0
  | m + 2 => mdays y (m + 1) + mlen y (m + 1)
def dayNo (y m d : Nat) : Nat := 365 * (y - 1) + (y - 1) / 4 - (y - 1) / 100 + (y - 1) / 400 + mdays y m + d - 1
/-- The day that ten bytes spell, if they are a date. -/
def dayP (l : List UInt8) : Option Nat :=
  let y := dval 0 (l.take 4); let m := dval 0 ((l.drop 5).take 2); let d := dval 0 ((l.drop 8).take 2)
  if dateB y m d then some (dayNo y m d) else none

/-! ### One token -/
inductive T1 where
  | err (e : Int)
  | ok (k : Int) (n : Nat) (v : Int)
def dated (s : List UInt8) : Bool :=
  decide (11 ≤ s.length) && (((s.drop 1).take 4).all dig && (decide (s[5]? = some 45) && (((s.drop 6).take 2).all dig && (decide (s[8]? = some 45) && ((s.drop 9).take 2).all dig))))
def symN : List UInt8 → Nat
  | [] => 0
  | c :: r => if (c = 60 ∨ c = 33 ∨ c = 62) ∧ r.head? = some 61 then 2
    else if c = 123 ∨ c = 125 ∨ c = 40 ∨ c = 41 ∨ c = 59 ∨ c = 44 ∨ c = 43 ∨ c = 45 ∨ c = 42 ∨ c = 60 ∨ c = 61 ∨ c = 62 then 1 else 0
theorem symN_cons (c : UInt8) (r : List UInt8) : symN (c :: r) = if (c = 60 ∨ c = 33 ∨ c = 62) ∧ r.head? = some 61 then 2
    else if c = 123 ∨ c = 125 ∨ c = 40 ∨ c = 41 ∨ c = 59 ∨ c = 44 ∨ c = 43 ∨ c = 45 ∨ c = 42 ∨ c = 60 ∨ c = 61 ∨ c = 62 then 1 else 0 := rfl
/-- The token at the beginning of a text that is not empty. -/
def tok1 (s : List UInt8) : T1 :=
  match s with
  | [] => .err 20
  | c :: _ =>
    if low c then (if 12 < (s.takeWhile wch).length then .err 2 else .ok 1 (s.takeWhile wch).length 0)
    else if dig c then
      (if 1 < (s.takeWhile dig).length ∧ c = 48 then .err 20
       else if 2147483647 < dval 0 (s.takeWhile dig) then .err 5 else .ok 2 (s.takeWhile dig).length (dval 0 (s.takeWhile dig)))
    else if c = 64 then (if dated s then (match dayP ((s.drop 1).take 10) with | some d => .ok 3 11 d | none => .err 5) else .err 20)
    else if symN s = 0 then .err 20 else .ok 4 (symN s) 0

theorem tok1_cons (c : UInt8) (r : List UInt8) : tok1 (c :: r) =
    if low c then (if 12 < ((c :: r).takeWhile wch).length then .err 2 else .ok 1 ((c :: r).takeWhile wch).length 0)
    else if dig c then
      (if 1 < ((c :: r).takeWhile dig).length ∧ c = 48 then .err 20
       else if 2147483647 < dval 0 ((c :: r).takeWhile dig) then .err 5 else .ok 2 ((c :: r).takeWhile dig).length (dval 0 ((c :: r).takeWhile dig)))
    else if c = 64 then (if dated (c :: r) then (match dayP (((c :: r).drop 1).take 10) with | some d => .ok 3 11 d | none => .err 5) else .err 20)
    else if symN (c :: r) = 0 then .err 20 else .ok 4 (symN (c :: r)) 0 := rfl

/-! ### All tokens -/
/-- What is left behind white space and comments; 'cm': in a comment. -/
def skipB : Bool → List UInt8 → List UInt8
  | _, [] => []
  | cm, c :: r => if c = 10 then skipB false r else if c = 35 then skipB true r else if cm || blk c then skipB cm r else c :: r
theorem skipB_len : ∀ (cm : Bool) (s : List UInt8), (skipB cm s).length ≤ s.length
  | _, [] => by simp [skipB]
  | cm, c :: r => by
    rw [skipB]
    split
    · exact Nat.le_succ_of_le (skipB_len false r)
    · split
      · exact Nat.le_succ_of_le (skipB_len true r)
      · split
        · exact Nat.le_succ_of_le (skipB_len cm r)
        · exact Nat.le_refl _
structure Tk where
  kd : Int
  at_ : Int
  tx : List UInt8
  nm : Int
  deriving DecidableEq
/-- The tokens, or the offset of the first error and its code. -/
structure LexR where
  l : List Tk
  off : Int
  e : Int
def LexR.put (t : Tk) (r : LexR) : LexR := if r.e = 0 then ⟨t :: r.l, r.off, 0⟩ else r
def lexW (k : Nat) (s : List UInt8) : LexR :=
  if _h0 : skipB false s = [] then ⟨[⟨0, (k + s.length : Nat), [], 0⟩], 0, 0⟩
  else match tok1 (skipB false s) with
    | .err e => ⟨[], (k + (s.length - (skipB false s).length) : Nat), e⟩
    | .ok kd n v =>
      if _h : 0 < n then (lexW (k + (s.length - (skipB false s).length) + n) ((skipB false s).drop n)).put ⟨kd, (k + (s.length - (skipB false s).length) : Nat), (skipB false s).take n, v⟩
      else ⟨[], 0, 20⟩
termination_by s.length
decreasing_by
  have h1 := skipB_len false s
  have h2 : 0 < (skipB false s).length := by
    cases hs : skipB false s with
    | nil => exact absurd hs _h0
    | cons => simp
  rw [List.length_drop]
  omega
theorem lex_end {k : Nat} {s : List UInt8} (h : skipB false s = []) : lexW k s = ⟨[⟨0, (k + s.length : Nat), [], 0⟩], 0, 0⟩ := by
  rw [lexW, dif_pos h]
theorem lex_err {k : Nat} {s : List UInt8} {e : Int} (h : skipB false s ≠ []) (ht : tok1 (skipB false s) = .err e) : lexW k s = ⟨[], (k + (s.length - (skipB false s).length) : Nat), e⟩ := by
  rw [lexW, dif_neg h, ht]
theorem lex_ok {k : Nat} {s : List UInt8} {kd : Int} {n : Nat} {v : Int} (h : skipB false s ≠ []) (ht : tok1 (skipB false s) = .ok kd n v) (hn : 0 < n) :
    lexW k s = (lexW (k + (s.length - (skipB false s).length) + n) ((skipB false s).drop n)).put ⟨kd, (k + (s.length - (skipB false s).length) : Nat), (skipB false s).take n, v⟩ := by
  rw [lexW, dif_neg h, ht]
  simp only [dif_pos hn]
/-- A token that is read is not empty, and lies in the text. -/
theorem tok1_len {s : List UInt8} {kd : Int} {n : Nat} {v : Int} (h : tok1 s = .ok kd n v) : 0 < n ∧ n ≤ s.length := by
  cases s with
  | nil => cases h
  | cons c r =>
    rw [tok1_cons] at h
    split at h
    · rename_i hl
      split at h
      · cases h
      · injection h with _ h2 _
        subst h2
        have : wch c = true := by simp [wch, hl]
        rw [List.takeWhile_cons, this]
        simp
        exact (List.takeWhile_sublist _).length_le
    · split at h
      · rename_i hd
        split at h
        · cases h
        · split at h
          · cases h
          · injection h with _ h2 _
            subst h2
            rw [List.takeWhile_cons, hd]
            simp
            exact (List.takeWhile_sublist _).length_le
      · split at h
        · split at h
          · rename_i hd
            split at h
            · injection h with _ h2 _
              subst h2
              simp only [dated, Bool.and_eq_true, decide_eq_true_eq] at hd
              exact ⟨by omega, hd.1⟩
            · cases h
          · cases h
        · split at h
          · cases h
          · rename_i hs
            injection h with _ h2 _
            subst h2
            refine ⟨Nat.pos_of_ne_zero hs, ?_⟩
            rw [symN_cons]
            split
            · rename_i hc
              cases r with
              | nil => simp at hc
              | cons => simp
            · split <;> simp
end Go.Proofs.YtbmcplnfamgpcaaDoor
