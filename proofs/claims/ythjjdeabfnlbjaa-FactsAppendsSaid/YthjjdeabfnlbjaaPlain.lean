/- Plain lists: what the reference of package facts computes, and what the program computes, and that both agree on valid lists. Nothing of the program stands here. -/
namespace Go.Proofs.Ythjjdeabfnlbjaa

/-- A fact of package facts, as plain data. -/
structure Fc where
  en : Int
  kd : ByteArray
  day : Int
  byy : Int
  too : Int
  am : Int

/-- A version of a fact. -/
structure Vr where
  op : Int
  st : Bool
  fc : Fc

instance : Inhabited Fc := ⟨⟨0, ByteArray.empty, 0, 0, 0, 0⟩⟩
instance : Inhabited Vr := ⟨⟨0, false, default⟩⟩
instance : DecidableEq Fc := fun a b => decidable_of_iff (a.en = b.en ∧ a.kd = b.kd ∧ a.day = b.day ∧ a.byy = b.byy ∧ a.too = b.too ∧ a.am = b.am) (by cases a; cases b; simp)
instance : DecidableEq Vr := fun a b => decidable_of_iff (a.op = b.op ∧ a.st = b.st ∧ a.fc = b.fc) (by cases a; cases b; simp)

def inB (n lo hi : Int) : Bool := decide (lo ≤ n) && decide (n ≤ hi)
def letB (c : UInt8) : Bool := decide (97 ≤ (c.toNat : Int)) && decide ((c.toNat : Int) ≤ 122)
def digB (c : UInt8) : Bool := decide (48 ≤ (c.toNat : Int)) && decide ((c.toNat : Int) ≤ 57)
def wchB (c : UInt8) : Bool := letB c || digB c
def wordB (s : ByteArray) : Bool := decide (0 < s.size) && decide (s.size ≤ 12) && letB (s.data.toList.headD 0) && s.data.toList.all wchB
def okF (f : Fc) : Bool := inB f.en 0 65535 && (wordB f.kd && (inB f.day 0 3652058 && (inB f.byy 0 63 && (inB f.too 0 63 && inB f.am (-2147483647) 2147483647))))

/-- Element k; a name of its own, so that no simp takes it apart. -/
def vat (l : List Vr) (k : Nat) : Vr := l.getD k default
def fat (l : List Fc) (k : Nat) : Fc := l.getD k default

theorem vat_eq {l : List Vr} {k : Nat} (h : k < l.length) : l[k]? = some (vat l k) := by simp [vat, h]
theorem fat_eq {l : List Fc} {k : Nat} (h : k < l.length) : l[k]? = some (fat l k) := by simp [fat, h]

/-- The last version of an entry. -/
def lastOf : List Vr → Int → Option Vr
  | [], _ => none
  | v :: l, en => match lastOf l en with | some u => some u | none => if v.fc.en = en then some v else none

theorem lastOf_append (a b : List Vr) (en : Int) : lastOf (a ++ b) en = match lastOf b en with | some u => some u | none => lastOf a en := by
  induction a with
  | nil => simp only [List.nil_append, lastOf]; cases lastOf b en <;> rfl
  | cons v a ih =>
    simp only [List.cons_append, lastOf, ih]
    cases lastOf b en <;> rfl
theorem lastOf_snoc (a : List Vr) (v : Vr) (en : Int) : lastOf (a ++ [v]) en = if v.fc.en = en then some v else lastOf a en := by
  rw [lastOf_append]; simp only [lastOf]
  by_cases h : v.fc.en = en <;> simp [h]
theorem lastOf_none {l : List Vr} {en : Int} (h : ∀ j, j < l.length → (vat l j).fc.en ≠ en) : lastOf l en = none := by
  induction l with
  | nil => rfl
  | cons v l ih =>
    have h0 := h 0 (by simp)
    simp only [lastOf]
    rw [ih (fun j hj => h (j + 1) (by simpa using hj))]
    simp only
    exact if_neg h0
theorem take_vat {l : List Vr} {k : Nat} (h : k < l.length) : l.take (k + 1) = l.take k ++ [vat l k] := by
  rw [List.take_succ_eq_append_getElem h]; simp [vat, h]
/-- What the backward loop of 'last' has learnt when it comes to k: no version from k on is of this entry. -/
theorem lastOf_down {l : List Vr} {en : Int} {k : Nat} (hk : k ≤ l.length) (h : ∀ j, k ≤ j → j < l.length → (vat l j).fc.en ≠ en) : lastOf l en = lastOf (l.take k) en := by
  have e : lastOf (l.drop k) en = none := by
    refine lastOf_none fun j hj => ?_
    have : vat (l.drop k) j = vat l (k + j) := by simp [vat]
    rw [this]
    simp at hj
    exact h (k + j) (by omega) (by omega)
  have := lastOf_append (l.take k) (l.drop k) en
  rw [List.take_append_drop, e] at this
  exact this
theorem lastOf_hit {l : List Vr} {en : Int} {k : Nat} (hk : k < l.length) (h : ∀ j, k + 1 ≤ j → j < l.length → (vat l j).fc.en ≠ en) (he : (vat l k).fc.en = en) : lastOf l en = some (vat l k) := by
  rw [lastOf_down (k := k + 1) hk h, take_vat hk, lastOf_snoc, if_pos he]
theorem lastOf_some {l : List Vr} {en : Int} {v : Vr} (h : lastOf l en = some v) : v ∈ l ∧ v.fc.en = en := by
  induction l with
  | nil => cases h
  | cons u l ih =>
    simp only [lastOf] at h
    cases hl : lastOf l en with
    | some x => rw [hl] at h; simp only at h; cases h; exact ⟨.tail _ (ih hl).1, (ih hl).2⟩
    | none =>
      rw [hl] at h; simp only at h
      by_cases hu : u.fc.en = en
      · rw [if_pos hu] at h; cases h; exact ⟨.head _, hu⟩
      · rw [if_neg hu] at h; cases h

/-- The error of a version behind others. -/
def wrongOf (l : List Vr) (v : Vr) : Int :=
  if v.op < 0 then 5
  else if v.st = false ∧ okF v.fc = false then 5
  else if inB v.fc.en 0 65535 = false then 5
  else if 0 < l.length ∧ v.op < (vat l (l.length - 1)).op then 12
  else if v.st = true ∧ (match lastOf l v.fc.en with | some u => u.st | none => true) = true then 3
  else 0

theorem wrongOf_end {l : List Vr} {v : Vr} (h1 : ¬ v.op < 0) (h2 : ¬ (v.st = false ∧ okF v.fc = false)) (h3 : inB v.fc.en 0 65535 = true) (h4 : ¬ (0 < l.length ∧ v.op < (vat l (l.length - 1)).op)) :
    wrongOf l v = if v.st = true ∧ (match lastOf l v.fc.en with | some u => u.st | none => true) = true then 3 else 0 := by
  unfold wrongOf; rw [if_neg h1, if_neg h2, if_neg (by simp [h3]), if_neg h4]
theorem wrongOf_12 {l : List Vr} {v : Vr} (h1 : ¬ v.op < 0) (h2 : ¬ (v.st = false ∧ okF v.fc = false)) (h3 : inB v.fc.en 0 65535 = true) (h4 : 0 < l.length) (h5 : v.op < (vat l (l.length - 1)).op) : wrongOf l v = 12 := by
  unfold wrongOf; rw [if_neg h1, if_neg h2, if_neg (by simp [h3]), if_pos ⟨h4, h5⟩]

/-- The error of the first version that has one. -/
def checkAux (l : List Vr) : Nat → Int
  | 0 => 0
  | k + 1 => if checkAux l k ≠ 0 then checkAux l k else if k < l.length then wrongOf (l.take k) (vat l k) else 0
def checkOf (l : List Vr) : Int := checkAux l l.length

theorem check_step {l : List Vr} {k : Nat} (hk : k < l.length) (h0 : checkAux l k = 0) : checkAux l (k + 1) = wrongOf (l.take k) (vat l k) := by
  simp only [checkAux]; rw [if_neg (by simp [h0]), if_pos hk]
theorem check_keeps {l : List Vr} {k : Nat} (h0 : checkAux l k ≠ 0) : ∀ m, checkAux l (k + m) = checkAux l k
  | 0 => rfl
  | m + 1 => by
    have ih := check_keeps h0 m
    show checkAux l (k + m + 1) = _
    simp only [checkAux]; rw [ih, if_pos h0]
theorem check_stop {l : List Vr} {k : Nat} (hk : k < l.length) (h0 : checkAux l k = 0) (h1 : wrongOf (l.take k) (vat l k) ≠ 0) : checkOf l = wrongOf (l.take k) (vat l k) := by
  have e := check_step hk h0
  have := check_keeps (l := l) (k := k + 1) (by rw [e]; exact h1) (l.length - (k + 1))
  rw [show k + 1 + (l.length - (k + 1)) = l.length by omega, e] at this
  exact this

theorem wrongOf_vals (l : List Vr) (v : Vr) : wrongOf l v = 0 ∨ wrongOf l v = 3 ∨ wrongOf l v = 5 ∨ wrongOf l v = 12 := by
  unfold wrongOf
  repeat (first | split | simp)
end Go.Proofs.Ythjjdeabfnlbjaa
