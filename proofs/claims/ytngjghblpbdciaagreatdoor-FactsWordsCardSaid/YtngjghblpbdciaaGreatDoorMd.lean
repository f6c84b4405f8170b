/- Plain law: what a source's tokens are; no walk in sight. -/
import Derived.WalkKit
import Derived.WalkSpells
import Derived.WalkSmall
import Derived.WalkLawsBesides
import Derived.Below
import Derived.IntWalk
import Derived.Lib.Hide
import Derived.Test.YtngjghblpbdciaaGreatDoorProg
import Derived.Maps.AppendAt
import Derived.Shelf.Strings.Builder1
import Derived.Shelf.Strings.Builder2
import Derived.Shelf.Small.Utf8
import Derived.Shelf.Small.Bits
import Derived.Shelf.Small.Strs
import Derived.Shelf.Small.Wraps
import Derived.Shelf.Strings.BuilderF
import Derived.Shelf.Strings.BuilderK
import Derived.Shelf.Strings.Builder2Cap
import Derived.Shelf.Strconv.Atoi
import Derived.Shelf.Strconv.Itoa0
import Derived.Shelf.Strconv.Itoa1
import Derived.Shelf.LaysM
import Derived.Shelf.Strconv.Itoa2
import Derived.Shelf.Strconv.Itoa3
import Derived.Shelf.Strconv.AtoiErrFast
import Derived.Shelf.Strconv.ParseIntEmpty
import Derived.Shelf.Strconv.AtoiFail
import Derived.Shelf.Strconv.Clone
import Derived.Shelf.Strconv.SyntaxError
import Derived.Shelf.LaysC
import Derived.Shelf.Strconv.ToError
import Derived.Shelf.Strconv.Lower
import Derived.Shelf.Strconv.ParseUint10
import Derived.Shelf.Strconv.ParseUint10Empty
import Derived.Shelf.Strconv.ParseUint10Any
import Derived.Shelf.Strconv.ParseInt10
import Derived.Shelf.Strconv.AtoiLong
import Derived.Shelf.Strconv.AtoiInnerAll
import Derived.Shelf.Strconv.RangeError
import Derived.Shelf.Strconv.ToErrorRange
import Derived.Shelf.Strconv.AtoiAll
import Derived.Shelf.Strconv.ErrVarAll
import Derived.Shelf.Strconv.ParseUintEmpty
import Derived.Shelf.Strconv.ParseUint10b64
import Derived.Shelf.Strconv.ParseUint10b32
import Derived.Shelf.Strconv.ParseUint10b16
import Derived.Shelf.Strconv.ParseUint10b8
import Derived.Shelf.Strconv.ParseUint10At
import Derived.Shelf.Strconv.ParseInt10At64
import Derived.Shelf.Strconv.ParseInt10At32
import Derived.Shelf.Strconv.ParseInt10At16
import Derived.Shelf.Strconv.ParseInt10At8
import Derived.Shelf.Strconv.ParseInt10All
import Derived.Shelf.Strings.Search1
import Derived.Shelf.Strings.Prefix
import Derived.Shelf.Strings.Runes
import Derived.Shelf.Bits.Mul64
import Derived.Shelf.Strings.Repeat
import Derived.Shelf.Strings.BuilderCap
import Derived.Ground.Names2Prog
import Derived.Shelf.Slices.SearchI
import Derived.BigQuiet
import Derived.Lib.ConvBytes
import Derived.Lib.AtoiErrMem
namespace Go.Proofs.YtngjghblpbdciaaGreatDoor
open Go

def dig (c : UInt8) : Bool := decide (48 ≤ c.toNat) && decide (c.toNat ≤ 57)
def low (c : UInt8) : Bool := decide (97 ≤ c.toNat) && decide (c.toNat ≤ 122)
def wch (c : UInt8) : Bool := low c || dig c
def blk (c : UInt8) : Bool := decide (c = 9) || (decide (c = 10) || (decide (c = 13) || decide (c = 32)))
theorem dig_iff {c : UInt8} : dig c = true ↔ 48 ≤ c.toNat ∧ c.toNat ≤ 57 := by simp [dig]
def dstep (a : Nat) (c : UInt8) : Nat := 10 * a + (c.toNat - 48)
/-- The value of digits behind a number. -/
def dval (a : Nat) (l : List UInt8) : Nat := l.foldl dstep a
theorem dval_nil (a : Nat) : dval a [] = a := rfl
theorem dval_cons (a : Nat) (c : UInt8) (l : List UInt8) : dval a (c :: l) = dval (10 * a + (c.toNat - 48)) l := by simp only [dval, List.foldl_cons, dstep]
theorem dval_snoc (l : List UInt8) (a : Nat) (c : UInt8) : dval a (l ++ [c]) = 10 * dval a l + (c.toNat - 48) := by
  simp only [dval, List.foldl_append, List.foldl_cons, List.foldl_nil, dstep]

/-! ### Days -/
def leap (y : Nat) : Bool := decide (y % 4 = 0) && (!decide (y % 100 = 0) || decide (y % 400 = 0))
def mlen (y m : Nat) : Nat :=
  if m = 2 then (if leap y then 29 else 28) else if m = 4 ∨ m = 6 ∨ m = 9 ∨ m = 11 then 30 else if 1 ≤ m ∧ m ≤ 12 then 31 else 0
def dateB (y m d : Nat) : Bool := decide (1 ≤ y) && (decide (y ≤ 9999) && (decide (1 ≤ m) && (decide (m ≤ 12) && (decide (1 ≤ d) && decide (d ≤ mlen y m)))))
/-- The days of the months ahead of one. -/
def mdays (y : Nat) : Nat → Nat
  | 0 => 0
  | 1 => 0
  | m + 2 => mdays y (m + 1) + mlen y (m + 1)
def dayNo (y m d : Nat) : Nat := 365 * (y - 1) + (y - 1) / 4 - (y - 1) / 100 + (y - 1) / 400 + mdays y m + d - 1
/-- The day that ten bytes spell, if they are a date. -/
def dayP (l : List UInt8) : Option Nat :=
  let y := dval 0 (l.take 4); let m := dval 0 ((l.drop 5).take 2); let d := dval 0 ((l.drop 8).take 2)
  if dateB y m d then some (dayNo y m d) else none

/-! ### One token -/
inductive T1 where
  | err (e : Int)
  | ok (k : Int) (n : Nat) (v : Int)
def dated (s : List UInt8) : Bool :=
  decide (11 ≤ s.length) && (((s.drop 1).take 4).all dig && (decide (s[5]? = some 45) && (((s.drop 6).take 2).all dig && (decide (s[8]? = some 45) && ((s.drop 9).take 2).all dig))))
def symN : List UInt8 → Nat
  | [] => 0
  | c :: r => if (c = 60 ∨ c = 33 ∨ c = 62) ∧ r.head? = some 61 then 2
    else if c = 123 ∨ c = 125 ∨ c = 40 ∨ c = 41 ∨ c = 59 ∨ c = 44 ∨ c = 43 ∨ c = 45 ∨ c = 42 ∨ c = 60 ∨ c = 61 ∨ c = 62 then 1 else 0
theorem symN_cons (c : UInt8) (r : List UInt8) : symN (c :: r) = if (c = 60 ∨ c = 33 ∨ c = 62) ∧ r.head? = some 61 then 2
    else if c = 123 ∨ c = 125 ∨ c = 40 ∨ c = 41 ∨ c = 59 ∨ c = 44 ∨ c = 43 ∨ c = 45 ∨ c = 42 ∨ c = 60 ∨ c = 61 ∨ c = 62 then 1 else 0 := rfl
/-- The token at the beginning of a text that is not empty. -/
def tok1 (s : List UInt8) : T1 :=
  match s with
  | [] => .err 20
  | c :: _ =>
    if low c then (if 12 < (s.takeWhile wch).length then .err 2 else .ok 1 (s.takeWhile wch).length 0)
    else if dig c then
      (if 1 < (s.takeWhile dig).length ∧ c = 48 then .err 20
       else if 2147483647 < dval 0 (s.takeWhile dig) then .err 5 else .ok 2 (s.takeWhile dig).length (dval 0 (s.takeWhile dig)))
    else if c = 64 then (if dated s then (match dayP ((s.drop 1).take 10) with | some d => .ok 3 11 d | none => .err 5) else .err 20)
    else if symN s = 0 then .err 20 else .ok 4 (symN s) 0

theorem tok1_cons (c : UInt8) (r : List UInt8) : tok1 (c :: r) =
    if low c then (if 12 < ((c :: r).takeWhile wch).length then .err 2 else .ok 1 ((c :: r).takeWhile wch).length 0)
    else if dig c then
      (if 1 < ((c :: r).takeWhile dig).length ∧ c = 48 then .err 20
       else if 2147483647 < dval 0 ((c :: r).takeWhile dig) then .err 5 else .ok 2 ((c :: r).takeWhile dig).length (dval 0 ((c :: r).takeWhile dig)))
    else if c = 64 then (if dated (c :: r) then (match dayP (((c :: r).drop 1).take 10) with | some d => .ok 3 11 d | none => .err 5) else .err 20)
    else if symN (c :: r) = 0 then .err 20 else .ok 4 (symN (c :: r)) 0 := rfl

/-! ### All tokens -/
/-- What is left behind white space and comments; 'cm': in a comment. -/
def skipB : Bool → List UInt8 → List UInt8
  | _, [] => []
  | cm, c :: r => if c = 10 then skipB false r else if c = 35 then skipB true r else if cm || blk c then skipB cm r else c :: r
theorem skipB_len : ∀ (cm : Bool) (s : List UInt8), (skipB cm s).length ≤ s.length
  | _, [] => by simp [skipB]
  | cm, c :: r => by
    rw [skipB]
    split
    · exact Nat.le_succ_of_le (skipB_len false r)
    · split
      · exact Nat.le_succ_of_le (skipB_len true r)
      · split
        · exact Nat.le_succ_of_le (skipB_len cm r)
        · exact Nat.le_refl _
structure Tk where
  kd : Int
  at_ : Int
  tx : List UInt8
  nm : Int
  deriving DecidableEq
/-- The tokens, or the offset of the first error and its code. -/
structure LexR where
  l : List Tk
  off : Int
  e : Int
def LexR.put (t : Tk) (r : LexR) : LexR := if r.e = 0 then ⟨t :: r.l, r.off, 0⟩ else r
def lexW (k : Nat) (s : List UInt8) : LexR :=
  if _h0 : skipB false s = [] then ⟨[⟨0, (k + s.length : Nat), [], 0⟩], 0, 0⟩
  else match tok1 (skipB false s) with
    | .err e => ⟨[], (k + (s.length - (skipB false s).length) : Nat), e⟩
    | .ok kd n v =>
      if _h : 0 < n then (lexW (k + (s.length - (skipB false s).length) + n) ((skipB false s).drop n)).put ⟨kd, (k + (s.length - (skipB false s).length) : Nat), (skipB false s).take n, v⟩
      else ⟨[], 0, 20⟩
termination_by s.length
decreasing_by
  have h1 := skipB_len false s
  have h2 : 0 < (skipB false s).length := by
    cases hs : skipB false s with
    | nil => exact absurd hs _h0
    | cons => simp
  rw [List.length_drop]
  omega
theorem lex_end {k : Nat} {s : List UInt8} (h : skipB false s = []) : lexW k s = ⟨[⟨0, (k + s.length : Nat), [], 0⟩], 0, 0⟩ := by
  rw [lexW, dif_pos h]
theorem lex_err {k : Nat} {s : List UInt8} {e : Int} (h : skipB false s ≠ []) (ht : tok1 (skipB false s) = .err e) : lexW k s = ⟨[], (k + (s.length - (skipB false s).length) : Nat), e⟩ := by
  rw [lexW, dif_neg h, ht]
theorem lex_ok {k : Nat} {s : List UInt8} {kd : Int} {n : Nat} {v : Int} (h : skipB false s ≠ []) (ht : tok1 (skipB false s) = .ok kd n v) (hn : 0 < n) :
    lexW k s = (lexW (k + (s.length - (skipB false s).length) + n) ((skipB false s).drop n)).put ⟨kd, (k + (s.length - (skipB false s).length) : Nat), (skipB false s).take n, v⟩ := by
  rw [lexW, dif_neg h, ht]
  simp only [dif_pos hn]
/-- A token that is read is not empty, and lies in the text. -/
theorem tok1_len {s : List UInt8} {kd : Int} {n : Nat} {v : Int} (h : tok1 s = .ok kd n v) : 0 < n ∧ n ≤ s.length := by
  cases s with
  | nil => cases h
  | cons c r =>
    rw [tok1_cons] at h
    split at h
    · rename_i hl
      split at h
      · cases h
      · injection h with _ h2 _
        subst h2
        have : wch c = true := by simp [wch, hl]
        rw [List.takeWhile_cons, this]
        simp
        exact (List.takeWhile_sublist _).length_le
    · split at h
      · rename_i hd
        split at h
        · cases h
        · split at h
          · cases h
          · injection h with _ h2 _
            subst h2
            rw [List.takeWhile_cons, hd]
            simp
            exact (List.takeWhile_sublist _).length_le
      · split at h
        · split at h
          · rename_i hd
            split at h
            · injection h with _ h2 _
              subst h2
              simp only [dated, Bool.and_eq_true, decide_eq_true_eq] at hd
              exact ⟨by omega, hd.1⟩
            · cases h
          · cases h
        · split at h
          · cases h
          · rename_i hs
            injection h with _ h2 _
            subst h2
            refine ⟨Nat.pos_of_ne_zero hs, ?_⟩
            rw [symN_cons]
            split
            · rename_i hc
              cases r with
              | nil => simp at hc
              | cons => simp
            · split <;> simp
end Go.Proofs.YtngjghblpbdciaaGreatDoor

/- What all walks of this claim share: worlds that grow; bytes and runes; the functions on runes. -/
namespace Go.Proofs.YtngjghblpbdciaaGreatDoor
open Go Go.RowKit

/-- w' is w with new blocks alone: every block that was there is as it was. A name of its own, so that no simp opens it. -/
def Ext (w w' : World) : Prop := Below w.heap.size w w'
theorem Ext.refl (w : World) : Ext w w := Below.refl _ _
theorem Ext.trans {a b c : World} (h : Ext a b) (k : Ext b c) : Ext a c := Below.trans h (Below.mono k h.size)
theorem Ext.alloc {a w : World} (h : Ext a w) (o : Obj) : Ext a (w.alloc o) := Below.alloc h h.size o
theorem Ext.drewN {a w : World} (h : Ext a w) (n : Nat) : Ext a (w.drewN n) := below_drewN h n
theorem Ext.drew {a w : World} (h : Ext a w) : Ext a w.drew := Below.drew h
theorem Ext.lt {a w : World} (h : Ext a w) : a.heap.size ≤ w.heap.size := h.size
theorem Ext.setCell {a w : World} (h : Ext a w) {p : Addr} (hp : a.heap.size ≤ p.block) (u : Value) : Ext a (w.setCell p u) := Below.setCell h hp u
theorem Ext.cells {w w1 : World} (hb : Ext w w1) : (∀ b o, b < w.heap.size → w1.cell? ⟨b, o, none⟩ = w.cell? ⟨b, o, none⟩) ∧ (∀ b o, b < w.heap.size → w1.frozen? ⟨b, o, none⟩ = w.frozen? ⟨b, o, none⟩) :=
  ⟨fun b o h => hb.cell (p := ⟨b, o, none⟩) h, fun b o h => hb.frozen (p := ⟨b, o, none⟩) h⟩
theorem ret_int {a b : Int} (h : a = b) : Ending.returned (.int .i64 a) = .returned (.int .i64 b) := by rw [h]
theorem ret_bool {a b : Bool} (h : a = b) : Ending.returned (.bool a) = .returned (.bool b) := by rw [h]
def BoolPost (b : Bool) (w : World) (e : Ending) (w' : World) : Prop := e = .returned (.bool b) ∧ Ext w w'
def StrPost (s : List UInt8) (w : World) (e : Ending) (w' : World) : Prop := e = .returned (.string ⟨s.toArray⟩) ∧ Ext w w'
theorem list_size (s : ByteArray) : s.data.toList.length = s.size := by simp
theorem get_list (s : ByteArray) (pos : Nat) (h : pos < s.size) : s.data.toList.drop pos = (s[pos]'h) :: s.data.toList.drop (pos + 1) := by
  have h' : pos < s.data.toList.length := by simpa using h
  rw [List.drop_eq_getElem_cons h']
  rfl
theorem drop_end (s : ByteArray) (pos : Nat) (h : ¬ pos < s.size) : s.data.toList.drop pos = [] := by
  apply List.drop_eq_nil_of_le
  rw [list_size]; omega
theorem next_end (W : World) (b : Nat) (hb : b = W.heap.size) (s : ByteArray) (pos : Nat) (ty : TypeId) (h : ¬ pos < s.size) :
    (Instr.next (.pointer (some ⟨b, 0, none⟩)) true ty).run Tryz.prog (W.alloc (.stringIter s pos)) = .ok (.tuple #[.bool false]) (W.alloc (.stringIter s pos)) := by
  subst hb; exact run_next_end W s pos ty h
theorem next_any (W : World) (b : Nat) (hb : b = W.heap.size) (s : ByteArray) (pos : Nat) (ty : TypeId) (h : pos < s.size) :
    (Instr.next (.pointer (some ⟨b, 0, none⟩)) true ty).run Tryz.prog (W.alloc (.stringIter s pos)) = .ok (.tuple #[.bool true, .int .i64 pos, .int .i32 (Utf8.decode s pos).1]) (W.alloc (.stringIter s (pos + (Utf8.decode s pos).2))) := by
  subst hb; exact run_next_any W s pos ty h
theorem iterPos_at (W : World) (b : Nat) (hb : b = W.heap.size) (s : ByteArray) (p : Nat) : (W.alloc (.stringIter s p)).iterPos b = p := by
  subst hb; exact World.iterPos_iter W s p
/-- The bytes that a rune of more than one byte takes are all of the upper half. -/
theorem decode_cont (s : ByteArray) (pos : Nat) (h : pos < s.size) (ha : 128 ≤ (s[pos]'h).toNat) : ∀ j, pos ≤ j → j < pos + (Utf8.decode s pos).2 → ∃ hj : j < s.size, 128 ≤ (s[j]'hj).toNat := by
  have get : ∀ k, (hk : pos + k < s.size) → s.get! (pos + k) = s[pos + k]'hk := fun k hk => get_at s (pos + k) hk
  intro j h1 h2
  by_cases hj0 : j = pos
  · subst hj0; exact ⟨h, ha⟩
  have hb0 : ¬ (s.get! (pos + 0)).toNat < 128 := by rw [get_at s pos h]; omega
  have cont : ∀ k, (decide (pos + k < s.size) && ((s.get! (pos + k)).toNat / 64 == 2)) = true → ∃ hk : pos + k < s.size, 128 ≤ (s[pos + k]'hk).toNat := fun k hk => by
    simp only [Bool.and_eq_true, decide_eq_true_eq, beq_iff_eq] at hk
    refine ⟨hk.1, ?_⟩
    have := hk.2
    rw [get k hk.1] at this
    omega
  simp only [Utf8.decode, hb0, if_false] at h2
  split at h2
  · rename_i hc
    simp only [Bool.and_eq_true] at hc
    split at h2
    · obtain rfl : j = pos + 1 := by simp at h2; omega
      exact cont 1 (by simpa using hc.2)
    · simp at h2; omega
  · split at h2
    · rename_i hc
      simp only [Bool.and_eq_true] at hc
      split at h2
      · have hj : j = pos + 1 ∨ j = pos + 2 := by simp at h2; omega
        rcases hj with rfl | rfl
        · exact cont 1 (by simpa using hc.1.2)
        · exact cont 2 (by simpa using hc.2)
      · simp at h2; omega
    · split at h2
      · rename_i hc
        simp only [Bool.and_eq_true] at hc
        split at h2
        · have hj : j = pos + 1 ∨ j = pos + 2 ∨ j = pos + 3 := by simp at h2; omega
          rcases hj with rfl | rfl | rfl
          · exact cont 1 (by simpa using hc.1.1.2)
          · exact cont 2 (by simpa using hc.1.2)
          · exact cont 3 (by simpa using hc.2)
        · simp at h2; omega
      · simp at h2; omega
end Go.Proofs.YtngjghblpbdciaaGreatDoor

/- Rows of whatever elements: slices whose cells are known, rows that a call has made itself, append; over any program. -/
namespace Go.Proofs.YtngjghblpbdciaaGreatDoor
open Go Go.RowKit

theorem own_form {w : World} {base : Nat} {e : TypeId} {size : Nat} {v : Value} {n : Nat} {xs : List Value} (h : w.ownsRow base e size v n xs) :
    ∃ A c, v = .slice A n c ∧ n ≤ c ∧ (A = none ∧ n = 0 ∧ c = 0 ∨ ∃ g, A = some ⟨g, 0, none⟩ ∧ base ≤ g ∧ g < w.heap.size ∧ ∀ j u, xs[j]? = some u → w.cell? ⟨g, j, none⟩ = some u) := by
  rcases h.2 with ⟨rfl, rfl⟩ | ⟨g, cap, cur, rfl, hb, hg, hn, _, _, _⟩
  · exact ⟨none, 0, rfl, Nat.le_refl _, .inl ⟨rfl, rfl, rfl⟩⟩
  · refine ⟨some ⟨g, 0, none⟩, cap, rfl, hn, .inr ⟨g, rfl, hb, lt_of_block hg, fun j u hu => ?_⟩⟩
    have := h.cells (g := g) rfl j u hu
    rwa [Addr.add_lit, Nat.zero_add] at this
/-- append onto a row of the call's own: the source is nil, or its cells are known. -/
theorem run_append_src5 {P : Program} {w : World} {base : Nat} {t e : TypeId} {z : Value} {size bytes : Nat} (ht : P.underlying t = some (.slice e)) (hinfo : (P.info? e).map (fun i => (i.zero, i.size, i.bytes)) = some (some z, size, bytes))
    (hzs : z.cells.size = size) (hsz : 0 < size) {v : Value} {n : Nat} {xs : List Value} (hown : w.ownsRow base e size v n xs) {A : Option Addr} {m c : Nat} {news : List Value} (hl : news.length = m * size)
    (hA : 0 < m → ∃ b off, A = some ⟨b, off, none⟩ ∧ ∀ j u, news[j]? = some u → w.cell? ⟨b, off + j, none⟩ = some u) (h1 : ∀ u ∈ news, u.oneCell' = true)
    (h63 : n + m ≤ maxLen) (hbytes : (n + m) * bytes ≤ 140737488355328) (hbase : base ≤ w.heap.size) :
    ∃ A' c' w', (Builtin.append_ #[t, t] t #[v, .slice A m c]).run P w = .ok (.slice A' (n + m) c') w' ∧ w'.ownsRow base e size (.slice A' (n + m) c') (n + m) (xs ++ news) ∧ (∀ B, B ≤ base → Below B w w') ∧
      (∀ k, k < w.heap.size → (∀ a, v ≠ .slice (some ⟨k, 0, none⟩) n a) → w'.heap[k]? = w.heap[k]?) ∧ ((Value.slice A' (n + m) c').ownBlock = v.ownBlock ∨ (Value.slice A' (n + m) c').ownBlock = some w.heap.size) := by
  obtain ⟨i, hi, hz, hs, hb⟩ := info_parts hinfo
  have fin : ∀ v' w', w'.ownsRow base e size v' (n + m) (xs ++ news) → w.grownBy w' v.ownBlock → (v'.ownBlock = v.ownBlock ∨ v'.ownBlock = some w.heap.size) → (Builtin.append_ #[t, t] t #[v, .slice A m c]).run P w = .ok v' w' →
      ∃ A' c' w', (Builtin.append_ #[t, t] t #[v, .slice A m c]).run P w = .ok (.slice A' (n + m) c') w' ∧ w'.ownsRow base e size (.slice A' (n + m) c') (n + m) (xs ++ news) ∧ (∀ B, B ≤ base → Below B w w') ∧
      (∀ k, k < w.heap.size → (∀ a, v ≠ .slice (some ⟨k, 0, none⟩) n a) → w'.heap[k]? = w.heap[k]?) ∧ ((Value.slice A' (n + m) c').ownBlock = v.ownBlock ∨ (Value.slice A' (n + m) c').ownBlock = some w.heap.size) := by
    intro v' w' h2 h3 h9 h4
    obtain ⟨A', c', rfl, _, _⟩ := own_form h2
    refine ⟨A', c', w', h4, h2, fun B hB => (Below.refl B w).grown h3 (Nat.le_trans hB hbase) (fun k hk => Nat.le_trans hB (hown.lt k hk).1), fun k hk hne => h3.block k hk (fun e => ?_), h9⟩
    rcases hown.2 with ⟨rfl, _⟩ | ⟨g, cap, cur, rfl, _⟩
    · simp [Value.ownBlock] at e
    · simp only [Value.ownBlock, Option.some.injEq] at e
      subst e
      exact hne _ rfl
  by_cases h0 : 0 < m
  · obtain ⟨b, off, rfl, hc⟩ := hA h0
    obtain ⟨v', w', hr, h2, h3, _, h9⟩ := run_append_own_at (P := P) w base t t e i z size bytes ht hi hz hs hb hzs hsz v n xs hown ⟨b, off, none⟩ m c news hl (fun j u hu => by rw [Addr.add_lit]; exact hc j u hu) h1 h63 hbytes hbase
    exact fin v' w' h2 h3 h9 hr
  · obtain rfl : m = 0 := by omega
    obtain rfl : news = [] := List.eq_nil_of_length_eq_zero (by simpa using hl)
    rcases A with _ | ad
    · have hr : (Builtin.append_ #[t, t] t #[v, .slice none 0 c]).run P w = .ok v w := by
        rcases hown.2 with ⟨rfl, rfl⟩ | ⟨g, cap, cur, rfl, _, _, hnc, _⟩
        · simp [Builtin.append_, run_underlying ht, sizeOf, typeInfo, hi, Builtin.lenOf, Builtin.firstCells]
        · simp [Builtin.append_, run_underlying ht, sizeOf, typeInfo, hi, Builtin.lenOf, Builtin.firstCells, hnc, storeCells]
      exact fin v w (by simpa using hown) (World.grownBy.refl w _) (.inl rfl) hr
    · obtain ⟨v', w', hr, h2, h3, _, h9⟩ := run_append_own_at (P := P) w base t t e i z size bytes ht hi hz hs hb hzs hsz v n xs hown ad 0 c [] hl (fun j u hu => by simp at hu) h1 h63 hbytes hbase
      exact fin v' w' h2 h3 h9 hr

/-- append, where its run is known. -/
theorem wpList_append_run {P : Program} {w : World} {ops : Array Oper} {rest : List Oper} {o : Oper} {a : Act} {Q : Exit → Act → World → Prop} {s x : Operand} {t : TypeId} {vs vx v' : Value} {w' : World}
    (hr : (Builtin.append_ #[t, t] t #[vs, vx]).run P w = .ok v' w') (hgd : o.guard = none)
    (ho : o.op = .call { callee := .builtin .append, args := #[s, x], argTypes := #[t, t] }) (hty : o.type = t) (hs : a.eval s = vs) (hx : a.eval x = vx)
    (h : wpList P ops Q rest (a.put o.dst v') w') : wpList P ops Q (o :: rest) a w := by
  refine wpList_plain hgd fun _ hK => ?_
  unfold Oper.wp execOp
  simp only [ho, hty, resolve, invoke, builtin, Sem.run_bind, Sem.run_pure, Result.andThen_ok, List.map_toArray, List.map_cons, List.map_nil, hs, hx, hr]
  exact hK _ _ h

section
variable {α : Type} (cf : α → List Value) (sz : Nat)
def gcells (l : List α) : List Value := l.flatMap cf
variable {cf sz}
theorem gcells_len (hcf : ∀ a, (cf a).length = sz) (l : List α) : (gcells cf l).length = l.length * sz := by
  induction l with
  | nil => simp [gcells]
  | cons v l ih => simp only [gcells, List.flatMap_cons, List.length_append] at ih ⊢; rw [ih, hcf, List.length_cons, Nat.succ_mul]; omega
theorem gcells_at (hcf : ∀ a, (cf a).length = sz) (l : List α) : ∀ (i : Nat) (a : α), l[i]? = some a → ∀ j, j < sz → (gcells cf l)[i * sz + j]? = (cf a)[j]? := by
  induction l with
  | nil => intro i a h; simp at h
  | cons v l ih =>
    intro i a h j hj
    simp only [gcells, List.flatMap_cons]
    cases i with
    | zero =>
      obtain rfl : v = a := by simpa using h
      rw [List.getElem?_append_left (by rw [hcf]; omega)]; simp
    | succ i =>
      rw [List.getElem?_append_right (by rw [hcf, Nat.succ_mul]; omega)]
      have e : (i + 1) * sz + j - (cf v).length = i * sz + j := by rw [hcf, Nat.succ_mul]; omega
      rw [e]
      exact ih i a (by simpa using h) j hj
theorem gcells_append (a b : List α) : gcells cf (a ++ b) = gcells cf a ++ gcells cf b := by simp [gcells]
theorem gcells_one (h1 : ∀ a, ∀ u ∈ cf a, u.oneCell' = true) (l : List α) : ∀ u ∈ gcells cf l, u.oneCell' = true := by
  intro u hu
  obtain ⟨v, _, hv⟩ := List.mem_flatMap.1 hu
  exact h1 v u hv
variable (cf sz)
/-- The elements l lie, m of them, behind the address A. -/
def SL (W : World) (A : Option Addr) (m : Nat) (l : List α) : Prop :=
  m = l.length ∧ (0 < m → ∃ b off, A = some ⟨b, off, none⟩ ∧ b < W.heap.size ∧ ∀ i a, l[i]? = some a → ∀ j u, (cf a)[j]? = some u → W.cell? ⟨b, off + i * sz + j, none⟩ = some u)
/-- The slice value v holds the elements l in a row of its own, in a block from base on. -/
def OL (w : World) (base : Nat) (e : TypeId) (v : Value) (l : List α) : Prop := w.ownsRow base e sz v l.length (gcells cf l)
variable {cf sz}
theorem SL.ext {W W' : World} {A : Option Addr} {m : Nat} {l : List α} (h : SL cf sz W A m l) (hx : Ext W W') : SL cf sz W' A m l := by
  refine ⟨h.1, fun h0 => ?_⟩
  obtain ⟨b, off, rfl, hb, hc⟩ := h.2 h0
  obtain ⟨q, _⟩ := hx.cells
  exact ⟨b, off, rfl, Nat.lt_of_lt_of_le hb hx.lt, fun i a hi j u hu => by rw [q _ _ hb]; exact hc i a hi j u hu⟩
theorem SL.nil (W : World) : SL cf sz W none 0 ([] : List α) := ⟨rfl, fun h => absurd h (by omega)⟩
theorem OL.nil (w : World) (base : Nat) (e : TypeId) : OL cf sz w base e (.slice none 0 0) ([] : List α) := World.ownsRow_nil w base e sz
theorem OL.form (hcf : ∀ a, (cf a).length = sz) {w : World} {base : Nat} {e : TypeId} {v : Value} {l : List α} (h : OL cf sz w base e v l) :
    ∃ A c, v = .slice A l.length c ∧ l.length ≤ c ∧ SL cf sz w A l.length l := by
  obtain ⟨A, c, rfl, hc, hh⟩ := own_form h
  refine ⟨A, c, rfl, hc, rfl, fun h0 => ?_⟩
  rcases hh with ⟨_, hn, _⟩ | ⟨g, rfl, hb, hg, hx⟩
  · omega
  · refine ⟨g, 0, rfl, hg, fun i a hi j u hu => ?_⟩
    have hj : j < sz := by rw [← hcf a]; exact (List.getElem?_eq_some_iff.1 hu).1
    have := hx (i * sz + j) u ((gcells_at hcf l i a hi j hj).trans hu)
    simpa [Nat.add_assoc] using this
theorem OL.ext {w w' : World} {base : Nat} {e : TypeId} {v : Value} {l : List α} (h : OL cf sz w base e v l) (hx : Ext w w') : OL cf sz w' base e v l := by
  refine ⟨h.1, ?_⟩
  rcases h.2 with h2 | ⟨g, cap, cur, h1, h2, h3, h4⟩
  · exact .inl h2
  · exact .inr ⟨g, cap, cur, h1, h2, by rw [hx.block g (lt_of_block h3)]; exact h3, h4⟩
theorem OL.append {P : Program} (hcf : ∀ a, (cf a).length = sz) (h1c : ∀ a, ∀ u ∈ cf a, u.oneCell' = true) (hsz : 0 < sz) {t e : TypeId} {z : Value} {bytes : Nat} (ht : P.underlying t = some (.slice e))
    (hinfo : (P.info? e).map (fun i => (i.zero, i.size, i.bytes)) = some (some z, sz, bytes)) (hzs : z.cells.size = sz) (hby : bytes ≤ 1000)
    {w : World} {base : Nat} {v : Value} {l : List α} (h : OL cf sz w base e v l) {A : Option Addr} {m : Nat} {l' : List α} (hs : SL cf sz w A m l') (c : Nat) (hm : l.length + m ≤ 100000000) (hbase : base ≤ w.heap.size) :
    ∃ A' c' w', (Builtin.append_ #[t, t] t #[v, .slice A m c]).run P w = .ok (.slice A' (l.length + m) c') w' ∧ OL cf sz w' base e (.slice A' (l.length + m) c') (l ++ l') ∧ (∀ B, B ≤ base → Below B w w') ∧
      (∀ k, k < w.heap.size → (∀ a, v ≠ .slice (some ⟨k, 0, none⟩) l.length a) → w'.heap[k]? = w.heap[k]?) := by
  obtain ⟨rfl, hs⟩ := hs
  obtain ⟨A', c', w', h1, h2, h3, h4, _⟩ := run_append_src5 (P := P) (t := t) ht hinfo hzs hsz h (A := A) (m := l'.length) (c := c) (news := gcells cf l') (gcells_len hcf l')
    (fun h0 => by
      obtain ⟨b, off, rfl, _, hc⟩ := hs h0
      refine ⟨b, off, rfl, fun j u hu => ?_⟩
      have hj : j < l'.length * sz := by rw [← gcells_len hcf]; exact (List.getElem?_eq_some_iff.1 hu).1
      have hjs : j / sz < l'.length := Nat.div_lt_of_lt_mul (by rw [Nat.mul_comm]; exact hj)
      have e : j = j / sz * sz + j % sz := by rw [Nat.mul_comm]; exact (Nat.div_add_mod j sz).symm
      have hmod : j % sz < sz := Nat.mod_lt _ hsz
      rw [e, gcells_at hcf l' (j / sz) _ (List.getElem?_eq_getElem hjs) (j % sz) hmod] at hu
      have := hc (j / sz) _ (List.getElem?_eq_getElem hjs) (j % sz) u hu
      rw [Nat.add_assoc, ← e] at this
      exact this)
    (gcells_one h1c l') (by simp only [maxLen]; omega) (Nat.le_trans (Nat.mul_le_mul hm hby) (by omega)) hbase
  refine ⟨A', c', w', h1, ?_, h3, h4⟩
  unfold OL
  rw [gcells_append, List.length_append]
  exact h2
theorem SL.one (w : World) (a : α) (cs : Array Value) (hcs : cs.toList = cf a) (t : TypeId) : SL cf sz (w.alloc (.cells cs t)) (some ⟨w.heap.size, 0, none⟩) 1 [a] := by
  refine ⟨rfl, fun _ => ⟨w.heap.size, 0, rfl, by simp, fun i a' hi j u hu => ?_⟩⟩
  obtain rfl : i = 0 := by
    have := (List.getElem?_eq_some_iff.1 hi).1
    simp at this; exact this
  obtain rfl : a = a' := by simpa using hi
  rw [cell_of_row _ w.heap.size _ _ t (0, 0) (heap_alloc_new w _)]
  rw [← hcs] at hu
  simpa using hu
end
end Go.Proofs.YtngjghblpbdciaaGreatDoor

/- The functions on runes, and 'first': the length of the longest head of one kind. -/
namespace Go.Proofs.YtngjghblpbdciaaGreatDoor
open Go Go.RowKit

def lowI (c : Int) : Bool := decide (97 ≤ c) && decide (c ≤ 122)
def digI (c : Int) : Bool := decide (48 ≤ c) && decide (c ≤ 57)
def nlI (c : Int) : Bool := !decide (c = 10)
def BQ (b : Bool) (w : World) (e : Ending) (w' : World) : Prop := e = .returned (.bool b) ∧ w' = w
theorem letter_any (c : Int) (w : World) : Calls Tryz.prog 17 #[.int .i32 c] w (BQ (lowI c) w) := by
  by_cases h1 : 97 ≤ c
  · by_cases h2 : c ≤ 122
    · have hf : lowI c = true := by simp [lowI, h1, h2]
      have HF := Lib.hid hf; clear hf
      go_enter Tryz.func17, Tryz.ntmps17
      go_wp2
      go_ret
      exact ⟨ret_bool (by rw [HF.out]), rfl⟩
    · have hf : lowI c = false := by simp [lowI, h2]
      have HF := Lib.hid hf; clear hf
      go_enter Tryz.func17, Tryz.ntmps17
      go_wp2
      go_ret
      exact ⟨ret_bool (by rw [HF.out]), rfl⟩
  · have hf : lowI c = false := by simp [lowI, h1]
    have HF := Lib.hid hf; clear hf
    go_enter Tryz.func17, Tryz.ntmps17
    go_wp2
    go_ret
    exact ⟨ret_bool (by rw [HF.out]), rfl⟩
theorem digit_any (c : Int) (w : World) : Calls Tryz.prog 19 #[.int .i32 c] w (BQ (digI c) w) := by
  by_cases h1 : 48 ≤ c
  · by_cases h2 : c ≤ 57
    · have hf : digI c = true := by simp [digI, h1, h2]
      have HF := Lib.hid hf; clear hf
      go_enter Tryz.func19, Tryz.ntmps19
      go_wp2
      go_ret
      exact ⟨ret_bool (by rw [HF.out]), rfl⟩
    · have hf : digI c = false := by simp [digI, h2]
      have HF := Lib.hid hf; clear hf
      go_enter Tryz.func19, Tryz.ntmps19
      go_wp2
      go_ret
      exact ⟨ret_bool (by rw [HF.out]), rfl⟩
  · have hf : digI c = false := by simp [digI, h1]
    have HF := Lib.hid hf; clear hf
    go_enter Tryz.func19, Tryz.ntmps19
    go_wp2
    go_ret
    exact ⟨ret_bool (by rw [HF.out]), rfl⟩
theorem nl_any (c : Int) (w : World) : Calls Tryz.prog 16 #[.int .i32 c] w (BQ (nlI c) w) := by
  by_cases h1 : c = 10
  · have hf : nlI c = false := by simp [nlI, h1]
    have HF := Lib.hid hf; clear hf
    subst h1
    go_enter Tryz.func16, Tryz.ntmps16
    go_wp2
    go_ret
    exact ⟨ret_bool (by rw [HF.out]), rfl⟩
  · have hf : nlI c = true := by simp [nlI, h1]
    have HF := Lib.hid hf; clear hf
    have h2 : (c != 10) = true := by simpa using h1
    go_enter Tryz.func16, Tryz.ntmps16
    go_wp2
    go_ret
    exact ⟨ret_bool (by rw [HF.out]), rfl⟩
theorem wc_any (c : Int) (w : World) : Calls Tryz.prog 37 #[.int .i32 c] w (BQ (lowI c || digI c) w) := by
  have HL := Lib.hid (fun X => letter_any c X)
  have HD := Lib.hid (fun X => digit_any c X)
  cases hl : lowI c with
  | true =>
    rw [hl] at HL
    clear hl
    go_enter Tryz.func37, Tryz.ntmps37
    go_wp2_with (first | (go_at_call 17; refine (HL.out _).mono ?_; rintro e w1 ⟨rfl, rfl⟩) | (go_at_call 19; refine (HD.out _).mono ?_; rintro e w1 ⟨rfl, rfl⟩))
    go_ret
    exact ⟨rfl, rfl⟩
  | false =>
    rw [hl] at HL
    clear hl
    cases hd : digI c with
    | true =>
      rw [hd] at HD
      clear hd
      go_enter Tryz.func37, Tryz.ntmps37
      go_wp2_with (first | (go_at_call 17; refine (HL.out _).mono ?_; rintro e w1 ⟨rfl, rfl⟩) | (go_at_call 19; refine (HD.out _).mono ?_; rintro e w1 ⟨rfl, rfl⟩))
      go_ret
      exact ⟨rfl, rfl⟩
    | false =>
      rw [hd] at HD
      clear hd
      go_enter Tryz.func37, Tryz.ntmps37
      go_wp2_with (first | (go_at_call 17; refine (HL.out _).mono ?_; rintro e w1 ⟨rfl, rfl⟩) | (go_at_call 19; refine (HD.out _).mono ?_; rintro e w1 ⟨rfl, rfl⟩))
      go_ret
      exact ⟨rfl, rfl⟩
/-- A test on runes and a test on bytes that say the same: on the runes below 128, and all above alike. -/
structure Kind (q : Int → Bool) (p : UInt8 → Bool) : Prop where
  lo : ∀ c : UInt8, c.toNat < 128 → q c.toNat = p c
  hi : ∀ (r : Nat) (c : UInt8), 128 ≤ r → 128 ≤ c.toNat → q r = p c
theorem kind_low : Kind lowI low :=
  ⟨fun c _ => by rw [lowI, low]; congr 1 <;> (apply decide_eq_decide.2; omega),
   fun r c h1 h2 => by
    rw [show lowI r = false by simp [lowI]; omega, show low c = false by simp [low]; omega]⟩
theorem kind_dig : Kind digI dig :=
  ⟨fun c _ => by rw [digI, dig]; congr 1 <;> (apply decide_eq_decide.2; omega),
   fun r c h1 h2 => by
    rw [show digI r = false by simp [digI]; omega, show dig c = false by simp [dig]; omega]⟩
theorem kind_wch : Kind (fun c => lowI c || digI c) wch :=
  ⟨fun c h => by show (_ || _) = (_ || _); rw [kind_low.lo c h, kind_dig.lo c h],
   fun r c h1 h2 => by show (_ || _) = (_ || _); rw [kind_low.hi r c h1 h2, kind_dig.hi r c h1 h2]⟩
def wchI (c : Int) : Bool := lowI c || digI c
theorem wcI_any (c : Int) (w : World) : Calls Tryz.prog 37 #[.int .i32 c] w (BQ (wchI c) w) := wc_any c w
theorem kind_wchI : Kind wchI wch := kind_wch
def nlB (c : UInt8) : Bool := !decide (c = 10)
theorem kind_nl : Kind nlI nlB :=
  ⟨fun c _ => by
    rw [nlI, nlB]; congr 1; apply decide_eq_decide.2
    constructor
    · intro h; exact UInt8.toNat_inj.1 (by have : (10 : UInt8).toNat = 10 := rfl; omega)
    · intro h; subst h; rfl,
   fun r c h1 h2 => by
    rw [show nlI r = true by simp [nlI]; omega, show nlB c = true by
      simp only [nlB, Bool.not_eq_true', decide_eq_false_iff_not]; intro h; subst h; exact absurd h2 (by decide)]⟩
def twn (p : UInt8 → Bool) (l : List UInt8) : Nat := (l.takeWhile p).length
theorem twn_stop {p : UInt8 → Bool} {c : UInt8} {r : List UInt8} (h : p c = false) : twn p (c :: r) = 0 := by simp [twn, h]
theorem twn_go {p : UInt8 → Bool} {c : UInt8} {r : List UInt8} (h : p c = true) : twn p (c :: r) = 1 + twn p r := by simp [twn, h]; omega
theorem twn_jump (p : UInt8 → Bool) (s : ByteArray) (n : Nat) : ∀ pos, (∀ j, pos ≤ j → j < pos + n → ∃ hj : j < s.size, p (s[j]'hj) = true) → twn p (s.data.toList.drop pos) = n + twn p (s.data.toList.drop (pos + n)) := by
  induction n with
  | zero => intro pos _; simp
  | succ n ih =>
    intro pos h
    obtain ⟨h1, h2⟩ := h pos (Nat.le_refl _) (by omega)
    rw [get_list s pos h1, twn_go h2, ih (pos + 1) (fun j a b => h j (by omega) (by omega)), show pos + 1 + n = pos + (n + 1) by omega]
    omega
def FRel (s : ByteArray) (p : UInt8 → Bool) (w w' : World) : Prop := ∃ pos, pos ≤ s.size ∧ pos + twn p (s.data.toList.drop pos) = twn p s.data.toList ∧ w' = w.alloc (.stringIter s pos)
def IntPost (n : Int) (w : World) (e : Ending) (w' : World) : Prop := e = .returned (.int .i64 n) ∧ Ext w w'
set_option maxHeartbeats 4000000 in
set_option maxRecDepth 100000 in
theorem first47_any (s : ByteArray) (w : World) (hs : s.size ≤ 281474976710656) :
    Calls Tryz.prog 15 #[.string s, .func (.func 37) #[] #[]] w (IntPost (twn wch s.data.toList) w) := by
  have HC := Lib.hid (fun (c : Int) X => (wcI_any c X : Calls Tryz.prog 37 #[.int .i32 c] X (BQ (wchI c) X)))
  have HK := Lib.hid kind_wchI
  go_enter Tryz.func15, Tryz.ntmps15
  go_wp2
  go_loopw [] (fun w' => FRel s wch w w') (fun w' => s.size - w'.iterPos w.heap.size)
  case atStart => exact ⟨0, by omega, by simp, rfl⟩
  case round =>
    obtain ⟨pos, hpos, hrl, rfl⟩ := hrel
    have HR := Lib.hid hrl
    clear hrl
    by_cases hp : pos < s.size
    · have hnx := fun ty => next_any w w.heap.size rfl s pos ty hp
      have hln := get_list s pos hp
      have HLN := Lib.hid hln
      clear hln
      by_cases ha : (s[pos]'hp).toNat < 128
      · have hd := decode_ascii s pos hp ha
        have hq := HK.out.lo _ ha
        obtain ⟨c, hcc⟩ : ∃ c : UInt8, c = s[pos]'hp := ⟨_, rfl⟩
        rw [← hcc] at hd hq HLN ha
        simp only [hd] at hnx
        clear hcc hd
        cases hb : wch c with
        | true =>
          have hcl := HC.out (c.toNat : Int)
          rw [hq, hb] at hcl
          have hfin : pos + 1 + twn wch (s.data.toList.drop (pos + 1)) = twn wch s.data.toList := by
            rw [← HR.out, HLN.out, twn_go hb]; omega
          have hme : s.size - (w.alloc (.stringIter s (pos + 1))).iterPos w.heap.size < s.size - (w.alloc (.stringIter s pos)).iterPos w.heap.size := by
            rw [iterPos_at _ _ rfl, iterPos_at _ _ rfl]; omega
          have HCL := Lib.hid hcl
          have HF := Lib.hid hfin
          have HM := Lib.hid hme
          clear hcl hfin hme hq hb HLN HR
          go_wp2_with (first | (go_at_call 37; refine (HCL.out _).mono ?_; rintro e w1 ⟨rfl, rfl⟩))
          exact ⟨⟨pos + 1, by omega, HF.out, rfl⟩, HM.out⟩
        | false =>
          have hcl := HC.out (c.toNat : Int)
          rw [hq, hb] at hcl
          have hfin : (pos : Int) = (twn wch s.data.toList : Nat) := by
            rw [← HR.out, HLN.out, twn_stop hb]; rfl
          have HCL := Lib.hid hcl
          have HF := Lib.hid hfin
          clear hcl hfin hq hb HLN HR
          go_wp2_with (first | (go_at_call 37; refine (HCL.out _).mono ?_; rintro e w1 ⟨rfl, rfl⟩))
          go_ret
          exact ⟨ret_int HF.out, (Ext.refl _).alloc _⟩
      · have hdh := decode_high s pos hp (by omega)
        have hdc := decode_cont s pos hp (by omega)
        have hqc := fun j (h1 : pos ≤ j) (h2 : j < pos + (Utf8.decode s pos).2) => (hdc j h1 h2).imp fun hj h => (HK.out.hi _ _ hdh.1 h).symm
        obtain ⟨r, hr⟩ : ∃ r, r = Utf8.decode s pos := ⟨_, rfl⟩
        rw [← hr] at hnx hdh hqc
        obtain ⟨r1, r2⟩ := r
        simp only at hdh hnx hqc
        clear hr hdc
        have hlast := (hqc (pos + r2 - 1) (by omega) (by omega)).1
        cases hb : wchI r1 with
        | true =>
          have hcl := HC.out (r1 : Int)
          rw [hb] at hcl
          have hfin : pos + r2 + twn wch (s.data.toList.drop (pos + r2)) = twn wch s.data.toList := by
            rw [← HR.out, twn_jump wch s r2 pos (fun j a b => (hqc j a b).imp fun hj h => by rw [h, hb])]; omega
          have hme : s.size - (w.alloc (.stringIter s (pos + r2))).iterPos w.heap.size < s.size - (w.alloc (.stringIter s pos)).iterPos w.heap.size := by
            rw [iterPos_at _ _ rfl, iterPos_at _ _ rfl]; omega
          have HCL := Lib.hid hcl
          have HF := Lib.hid hfin
          have HM := Lib.hid hme
          have hle : pos + r2 ≤ s.size := by omega
          clear hcl hfin hme hb HLN HR hqc hlast ha
          go_wp2_with (first | (go_at_call 37; refine (HCL.out _).mono ?_; rintro e w1 ⟨rfl, rfl⟩))
          exact ⟨⟨pos + r2, hle, HF.out, rfl⟩, HM.out⟩
        | false =>
          have hcl := HC.out (r1 : Int)
          rw [hb] at hcl
          have hfin : (pos : Int) = (twn wch s.data.toList : Nat) := by
            obtain ⟨_, h⟩ := hqc pos (Nat.le_refl _) (by omega)
            rw [← HR.out, HLN.out, twn_stop (by rw [h, hb])]; rfl
          have HCL := Lib.hid hcl
          have HF := Lib.hid hfin
          clear hcl hfin hb HLN HR hqc hlast ha
          go_wp2_with (first | (go_at_call 37; refine (HCL.out _).mono ?_; rintro e w1 ⟨rfl, rfl⟩))
          go_ret
          exact ⟨ret_int HF.out, (Ext.refl _).alloc _⟩
    · have hnx := fun ty => next_end w w.heap.size rfl s pos ty hp
      have hfin : (s.size : Int) = (twn wch s.data.toList : Nat) := by
        rw [← HR.out, drop_end s pos hp, show twn wch [] = 0 from rfl]; omega
      have HF := Lib.hid hfin
      clear hfin HR
      go_wp2
      go_ret
      exact ⟨ret_int HF.out, (Ext.refl _).alloc _⟩
set_option maxHeartbeats 4000000 in
set_option maxRecDepth 100000 in
theorem first32_any (s : ByteArray) (w : World) (hs : s.size ≤ 281474976710656) :
    Calls Tryz.prog 15 #[.string s, .func (.func 19) #[] #[]] w (IntPost (twn dig s.data.toList) w) := by
  have HC := Lib.hid (fun (c : Int) X => (digit_any c X : Calls Tryz.prog 19 #[.int .i32 c] X (BQ (digI c) X)))
  have HK := Lib.hid kind_dig
  go_enter Tryz.func15, Tryz.ntmps15
  go_wp2
  go_loopw [] (fun w' => FRel s dig w w') (fun w' => s.size - w'.iterPos w.heap.size)
  case atStart => exact ⟨0, by omega, by simp, rfl⟩
  case round =>
    obtain ⟨pos, hpos, hrl, rfl⟩ := hrel
    have HR := Lib.hid hrl
    clear hrl
    by_cases hp : pos < s.size
    · have hnx := fun ty => next_any w w.heap.size rfl s pos ty hp
      have hln := get_list s pos hp
      have HLN := Lib.hid hln
      clear hln
      by_cases ha : (s[pos]'hp).toNat < 128
      · have hd := decode_ascii s pos hp ha
        have hq := HK.out.lo _ ha
        obtain ⟨c, hcc⟩ : ∃ c : UInt8, c = s[pos]'hp := ⟨_, rfl⟩
        rw [← hcc] at hd hq HLN ha
        simp only [hd] at hnx
        clear hcc hd
        cases hb : dig c with
        | true =>
          have hcl := HC.out (c.toNat : Int)
          rw [hq, hb] at hcl
          have hfin : pos + 1 + twn dig (s.data.toList.drop (pos + 1)) = twn dig s.data.toList := by
            rw [← HR.out, HLN.out, twn_go hb]; omega
          have hme : s.size - (w.alloc (.stringIter s (pos + 1))).iterPos w.heap.size < s.size - (w.alloc (.stringIter s pos)).iterPos w.heap.size := by
            rw [iterPos_at _ _ rfl, iterPos_at _ _ rfl]; omega
          have HCL := Lib.hid hcl
          have HF := Lib.hid hfin
          have HM := Lib.hid hme
          clear hcl hfin hme hq hb HLN HR
          go_wp2_with (first | (go_at_call 19; refine (HCL.out _).mono ?_; rintro e w1 ⟨rfl, rfl⟩))
          exact ⟨⟨pos + 1, by omega, HF.out, rfl⟩, HM.out⟩
        | false =>
          have hcl := HC.out (c.toNat : Int)
          rw [hq, hb] at hcl
          have hfin : (pos : Int) = (twn dig s.data.toList : Nat) := by
            rw [← HR.out, HLN.out, twn_stop hb]; rfl
          have HCL := Lib.hid hcl
          have HF := Lib.hid hfin
          clear hcl hfin hq hb HLN HR
          go_wp2_with (first | (go_at_call 19; refine (HCL.out _).mono ?_; rintro e w1 ⟨rfl, rfl⟩))
          go_ret
          exact ⟨ret_int HF.out, (Ext.refl _).alloc _⟩
      · have hdh := decode_high s pos hp (by omega)
        have hdc := decode_cont s pos hp (by omega)
        have hqc := fun j (h1 : pos ≤ j) (h2 : j < pos + (Utf8.decode s pos).2) => (hdc j h1 h2).imp fun hj h => (HK.out.hi _ _ hdh.1 h).symm
        obtain ⟨r, hr⟩ : ∃ r, r = Utf8.decode s pos := ⟨_, rfl⟩
        rw [← hr] at hnx hdh hqc
        obtain ⟨r1, r2⟩ := r
        simp only at hdh hnx hqc
        clear hr hdc
        have hlast := (hqc (pos + r2 - 1) (by omega) (by omega)).1
        cases hb : digI r1 with
        | true =>
          have hcl := HC.out (r1 : Int)
          rw [hb] at hcl
          have hfin : pos + r2 + twn dig (s.data.toList.drop (pos + r2)) = twn dig s.data.toList := by
            rw [← HR.out, twn_jump dig s r2 pos (fun j a b => (hqc j a b).imp fun hj h => by rw [h, hb])]; omega
          have hme : s.size - (w.alloc (.stringIter s (pos + r2))).iterPos w.heap.size < s.size - (w.alloc (.stringIter s pos)).iterPos w.heap.size := by
            rw [iterPos_at _ _ rfl, iterPos_at _ _ rfl]; omega
          have HCL := Lib.hid hcl
          have HF := Lib.hid hfin
          have HM := Lib.hid hme
          have hle : pos + r2 ≤ s.size := by omega
          clear hcl hfin hme hb HLN HR hqc hlast ha
          go_wp2_with (first | (go_at_call 19; refine (HCL.out _).mono ?_; rintro e w1 ⟨rfl, rfl⟩))
          exact ⟨⟨pos + r2, hle, HF.out, rfl⟩, HM.out⟩
        | false =>
          have hcl := HC.out (r1 : Int)
          rw [hb] at hcl
          have hfin : (pos : Int) = (twn dig s.data.toList : Nat) := by
            obtain ⟨_, h⟩ := hqc pos (Nat.le_refl _) (by omega)
            rw [← HR.out, HLN.out, twn_stop (by rw [h, hb])]; rfl
          have HCL := Lib.hid hcl
          have HF := Lib.hid hfin
          clear hcl hfin hb HLN HR hqc hlast ha
          go_wp2_with (first | (go_at_call 19; refine (HCL.out _).mono ?_; rintro e w1 ⟨rfl, rfl⟩))
          go_ret
          exact ⟨ret_int HF.out, (Ext.refl _).alloc _⟩
    · have hnx := fun ty => next_end w w.heap.size rfl s pos ty hp
      have hfin : (s.size : Int) = (twn dig s.data.toList : Nat) := by
        rw [← HR.out, drop_end s pos hp, show twn dig [] = 0 from rfl]; omega
      have HF := Lib.hid hfin
      clear hfin HR
      go_wp2
      go_ret
      exact ⟨ret_int HF.out, (Ext.refl _).alloc _⟩
set_option maxHeartbeats 4000000 in
set_option maxRecDepth 100000 in
theorem first29_any (s : ByteArray) (w : World) (hs : s.size ≤ 281474976710656) :
    Calls Tryz.prog 15 #[.string s, .func (.func 16) #[] #[]] w (IntPost (twn nlB s.data.toList) w) := by
  have HC := Lib.hid (fun (c : Int) X => (nl_any c X : Calls Tryz.prog 16 #[.int .i32 c] X (BQ (nlI c) X)))
  have HK := Lib.hid kind_nl
  go_enter Tryz.func15, Tryz.ntmps15
  go_wp2
  go_loopw [] (fun w' => FRel s nlB w w') (fun w' => s.size - w'.iterPos w.heap.size)
  case atStart => exact ⟨0, by omega, by simp, rfl⟩
  case round =>
    obtain ⟨pos, hpos, hrl, rfl⟩ := hrel
    have HR := Lib.hid hrl
    clear hrl
    by_cases hp : pos < s.size
    · have hnx := fun ty => next_any w w.heap.size rfl s pos ty hp
      have hln := get_list s pos hp
      have HLN := Lib.hid hln
      clear hln
      by_cases ha : (s[pos]'hp).toNat < 128
      · have hd := decode_ascii s pos hp ha
        have hq := HK.out.lo _ ha
        obtain ⟨c, hcc⟩ : ∃ c : UInt8, c = s[pos]'hp := ⟨_, rfl⟩
        rw [← hcc] at hd hq HLN ha
        simp only [hd] at hnx
        clear hcc hd
        cases hb : nlB c with
        | true =>
          have hcl := HC.out (c.toNat : Int)
          rw [hq, hb] at hcl
          have hfin : pos + 1 + twn nlB (s.data.toList.drop (pos + 1)) = twn nlB s.data.toList := by
            rw [← HR.out, HLN.out, twn_go hb]; omega
          have hme : s.size - (w.alloc (.stringIter s (pos + 1))).iterPos w.heap.size < s.size - (w.alloc (.stringIter s pos)).iterPos w.heap.size := by
            rw [iterPos_at _ _ rfl, iterPos_at _ _ rfl]; omega
          have HCL := Lib.hid hcl
          have HF := Lib.hid hfin
          have HM := Lib.hid hme
          clear hcl hfin hme hq hb HLN HR
          go_wp2_with (first | (go_at_call 16; refine (HCL.out _).mono ?_; rintro e w1 ⟨rfl, rfl⟩))
          exact ⟨⟨pos + 1, by omega, HF.out, rfl⟩, HM.out⟩
        | false =>
          have hcl := HC.out (c.toNat : Int)
          rw [hq, hb] at hcl
          have hfin : (pos : Int) = (twn nlB s.data.toList : Nat) := by
            rw [← HR.out, HLN.out, twn_stop hb]; rfl
          have HCL := Lib.hid hcl
          have HF := Lib.hid hfin
          clear hcl hfin hq hb HLN HR
          go_wp2_with (first | (go_at_call 16; refine (HCL.out _).mono ?_; rintro e w1 ⟨rfl, rfl⟩))
          go_ret
          exact ⟨ret_int HF.out, (Ext.refl _).alloc _⟩
      · have hdh := decode_high s pos hp (by omega)
        have hdc := decode_cont s pos hp (by omega)
        have hqc := fun j (h1 : pos ≤ j) (h2 : j < pos + (Utf8.decode s pos).2) => (hdc j h1 h2).imp fun hj h => (HK.out.hi _ _ hdh.1 h).symm
        obtain ⟨r, hr⟩ : ∃ r, r = Utf8.decode s pos := ⟨_, rfl⟩
        rw [← hr] at hnx hdh hqc
        obtain ⟨r1, r2⟩ := r
        simp only at hdh hnx hqc
        clear hr hdc
        have hlast := (hqc (pos + r2 - 1) (by omega) (by omega)).1
        cases hb : nlI r1 with
        | true =>
          have hcl := HC.out (r1 : Int)
          rw [hb] at hcl
          have hfin : pos + r2 + twn nlB (s.data.toList.drop (pos + r2)) = twn nlB s.data.toList := by
            rw [← HR.out, twn_jump nlB s r2 pos (fun j a b => (hqc j a b).imp fun hj h => by rw [h, hb])]; omega
          have hme : s.size - (w.alloc (.stringIter s (pos + r2))).iterPos w.heap.size < s.size - (w.alloc (.stringIter s pos)).iterPos w.heap.size := by
            rw [iterPos_at _ _ rfl, iterPos_at _ _ rfl]; omega
          have HCL := Lib.hid hcl
          have HF := Lib.hid hfin
          have HM := Lib.hid hme
          have hle : pos + r2 ≤ s.size := by omega
          clear hcl hfin hme hb HLN HR hqc hlast ha
          go_wp2_with (first | (go_at_call 16; refine (HCL.out _).mono ?_; rintro e w1 ⟨rfl, rfl⟩))
          exact ⟨⟨pos + r2, hle, HF.out, rfl⟩, HM.out⟩
        | false =>
          have hcl := HC.out (r1 : Int)
          rw [hb] at hcl
          have hfin : (pos : Int) = (twn nlB s.data.toList : Nat) := by
            obtain ⟨_, h⟩ := hqc pos (Nat.le_refl _) (by omega)
            rw [← HR.out, HLN.out, twn_stop (by rw [h, hb])]; rfl
          have HCL := Lib.hid hcl
          have HF := Lib.hid hfin
          clear hcl hfin hb HLN HR hqc hlast ha
          go_wp2_with (first | (go_at_call 16; refine (HCL.out _).mono ?_; rintro e w1 ⟨rfl, rfl⟩))
          go_ret
          exact ⟨ret_int HF.out, (Ext.refl _).alloc _⟩
    · have hnx := fun ty => next_end w w.heap.size rfl s pos ty hp
      have hfin : (s.size : Int) = (twn nlB s.data.toList : Nat) := by
        rw [← HR.out, drop_end s pos hp, show twn nlB [] = 0 from rfl]; omega
      have HF := Lib.hid hfin
      clear hfin HR
      go_wp2
      go_ret
      exact ⟨ret_int HF.out, (Ext.refl _).alloc _⟩
end Go.Proofs.YtngjghblpbdciaaGreatDoor

/-
  DERIVED: THE SHELF's CONTRACTS AT THIS DUMP, IN PLAIN WORDS (tools/lay-plain.mjs out of 'TryzShelf.lean', which tools/lay-shelf.mjs wrote): THE SAME DECLARATIONS UNDER THE SAME NAMES: 'import', 'namespace', 'open', 'def', 'theorem' AND NOTHING ELSE: no command of the shelf's: FOR A HAND-IN. Each laying: the table of numbers ('.._ren') and one theorem, a field a fact of the dump's own or the kernel's comparison; each contract: ONE APPLICATION.
-/
namespace Go.Proofs
open Go.Shelf
def Tryz.lays119_ren : Go.Shelf.Ren := ⟨fun | 119 => 56 | n => n, fun | 21 => 21 | 4 => 4 | n => n, fun | n => n⟩
theorem Tryz.lays119 : Go.Proofs.Lays.n119 Tryz.prog Tryz.lays119_ren := {
  mixed := by kernel_rfl
  f119 := Tryz.func56.trans (congrArg some (by kernel_rfl))
  t4 := Tryz.underlying4
  a4 := Tryz.isAgg4
  z4 := Tryz.sizeOf4
  v4 := Tryz.zeroValue4
  t21 := Tryz.underlying21
  a21 := Tryz.isAgg21
  z21 := Tryz.sizeOf21
  v21 := Tryz.zeroValue21 }
/-- utf8.ValidRune: "ValidRune reports whether r can be legally encoded as UTF-8. Code points that are out of range or a surrogate half are illegal.": IT RETURNS 'Lib.validRune r'; the world is as it was. (LAID: no walk: one application.) -/
theorem Tryz.utf8_ValidRune (r : Int) (w : World) :
    Calls Tryz.prog 56 #[.int .i32 r] w fun e w' => e = .returned (.bool (Lib.validRune r)) ∧ w' = w := Any.utf8_ValidRune Tryz.lays119 r w
def Tryz.lays137_ren : Go.Shelf.Ren := ⟨fun | 137 => 35 | 217 => 55 | 266 => 73 | n => n, fun | 9 => 9 | 5 => 5 | 3 => 3 | n => n, fun | n => n⟩
theorem Tryz.lays137 : Go.Proofs.Lays.n137 Tryz.prog Tryz.lays137_ren := {
  mixed := by kernel_rfl
  f137 := Tryz.func35.trans (congrArg some (by kernel_rfl))
  f217 := Tryz.func55.trans (congrArg some (by kernel_rfl))
  f266 := Tryz.func73.trans (congrArg some (by kernel_rfl))
  t3 := Tryz.underlying3
  a3 := Tryz.isAgg3
  z3 := Tryz.sizeOf3
  v3 := Tryz.zeroValue3
  t5 := Tryz.underlying5
  a5 := Tryz.isAgg5
  z5 := Tryz.sizeOf5
  v5 := Tryz.zeroValue5
  t9 := Tryz.underlying9
  a9 := Tryz.isAgg9
  z9 := Tryz.sizeOf9
  v9 := Tryz.zeroValue9 }
open Go.RowKit in
/-- strings.IndexByte: "IndexByte returns the index of the first instance of c in s, or -1 if c is not present in s.": IT RETURNS 'Lib.indexByte s c'; the world is as it was. (LAID: no walk: one application.) -/
theorem Tryz.strings_IndexByte (s : ByteArray) (c : Int) (w : World) :
    Calls Tryz.prog 35 #[.string s, .int .u8 c] w fun e w' => e = .returned (.int .i64 (Lib.indexByte s.data.toList c.toNat.toUInt8)) ∧ w' = w := Any.strings_IndexByte Tryz.lays137 s c w
def Tryz.laysM171_ren : Go.Shelf.Ren := ⟨fun | 171 => 24 | 243 => 40 | 246 => 63 | 283 => 81 | 284 => 82 | 285 => 83 | 286 => 84 | 129 => 96 | 317 => 101 | 318 => 102 | 319 => 103 | 320 => 104 | 337 => 113 | 338 => 114 | n => n, fun | 3 => 3 | 9 => 9 | 2 => 2 | 4 => 4 | 171 => 119 | 0 => 0 | 53 => 102 | 37 => 80 | 5 => 5 | 173 => 122 | 212 => 143 | 51 => 99 | 20 => 20 | 213 => 144 | 46 => 76 | 232 => 159 | 233 => 160 | n => n, fun | 17 => 3 | 18 => 5 | 19 => 6 | n => n⟩
theorem Tryz.laysM171 : Go.Proofs.LaysM.n171 Tryz.prog Tryz.laysM171_ren := {
  mixed := by kernel_rfl
  f129 := Tryz.func96.trans (congrArg some (by kernel_rfl))
  f171 := Tryz.func24.trans (congrArg some (by kernel_rfl))
  f243 := Tryz.func40.trans (congrArg some (by kernel_rfl))
  f246 := Tryz.func63.trans (congrArg some (by kernel_rfl))
  f283 := Tryz.func81.trans (congrArg some (by kernel_rfl))
  f284 := Tryz.func82.trans (congrArg some (by kernel_rfl))
  f285 := Tryz.func83.trans (congrArg some (by kernel_rfl))
  f286 := Tryz.func84.trans (congrArg some (by kernel_rfl))
  f317 := Tryz.func101.trans (congrArg some (by kernel_rfl))
  f318 := Tryz.func102.trans (congrArg some (by kernel_rfl))
  f319 := Tryz.func103.trans (congrArg some (by kernel_rfl))
  f320 := Tryz.func104.trans (congrArg some (by kernel_rfl))
  f337 := Tryz.func113.trans (congrArg some (by kernel_rfl))
  f338 := Tryz.func114.trans (congrArg some (by kernel_rfl))
  t0 := Tryz.underlying0
  a0 := Tryz.isAgg0
  z0 := Tryz.sizeOf0
  v0 := Tryz.zeroValue0
  t2 := Tryz.underlying2
  a2 := Tryz.isAgg2
  z2 := Tryz.sizeOf2
  v2 := Tryz.zeroValue2
  t3 := Tryz.underlying3
  a3 := Tryz.isAgg3
  z3 := Tryz.sizeOf3
  v3 := Tryz.zeroValue3
  t4 := Tryz.underlying4
  a4 := Tryz.isAgg4
  z4 := Tryz.sizeOf4
  v4 := Tryz.zeroValue4
  t5 := Tryz.underlying5
  a5 := Tryz.isAgg5
  z5 := Tryz.sizeOf5
  v5 := Tryz.zeroValue5
  t9 := Tryz.underlying9
  a9 := Tryz.isAgg9
  z9 := Tryz.sizeOf9
  v9 := Tryz.zeroValue9
  t20 := Tryz.underlying20
  a20 := Tryz.isAgg20
  z20 := Tryz.sizeOf20
  v20 := Tryz.zeroValue20
  t37 := Tryz.underlying80
  a37 := Tryz.isAgg80
  z37 := Tryz.sizeOf80
  v37 := Tryz.zeroValue80
  t46 := Tryz.underlying76
  a46 := Tryz.isAgg76
  z46 := Tryz.sizeOf76
  v46 := Tryz.zeroValue76
  t51 := Tryz.underlying99
  a51 := Tryz.isAgg99
  z51 := Tryz.sizeOf99
  v51 := Tryz.zeroValue99
  t53 := Tryz.underlying102
  a53 := Tryz.isAgg102
  z53 := Tryz.sizeOf102
  v53 := Tryz.zeroValue102
  t171 := Tryz.underlying119
  a171 := Tryz.isAgg119
  z171 := Tryz.sizeOf119
  v171 := Tryz.zeroValue119
  t173 := Tryz.underlying122
  a173 := Tryz.isAgg122
  z173 := Tryz.sizeOf122
  v173 := Tryz.zeroValue122
  t212 := Tryz.underlying143
  a212 := Tryz.isAgg143
  z212 := Tryz.sizeOf143
  v212 := Tryz.zeroValue143
  t213 := Tryz.underlying144
  a213 := Tryz.isAgg144
  z213 := Tryz.sizeOf144
  t232 := Tryz.underlying159
  a232 := Tryz.isAgg159
  z232 := Tryz.sizeOf159
  v232 := Tryz.zeroValue159
  t233 := Tryz.underlying160
  a233 := Tryz.isAgg160
  z233 := Tryz.sizeOf160
  v233 := Tryz.zeroValue160
  g17 := by kernel_rfl
  g18 := by kernel_rfl
  g19 := by kernel_rfl
  i0 := by kernel_rfl
  i2 := by kernel_rfl
  i3 := by kernel_rfl
  i4 := by kernel_rfl
  i5 := by kernel_rfl
  i9 := by kernel_rfl
  i20 := by kernel_rfl
  i37 := by kernel_rfl
  i46 := by kernel_rfl
  i51 := by kernel_rfl
  i53 := by kernel_rfl
  i171 := by kernel_rfl
  i173 := by kernel_rfl
  i212 := by kernel_rfl
  i232 := by kernel_rfl
  i233 := by kernel_rfl
  m17 := by kernel_rfl
  m18 := by kernel_rfl
  m19 := by kernel_rfl }
open Go.RowKit Go.Sort Go.Lib in
/-- strconv.Itoa: "Itoa is equivalent to FormatInt(int64(i), 10).": i's DECIMAL NUMERAL ('Lib.itoa': a '-' where i is negative, then the digits), FOR EVERY int. The world behind the call: the world before it, new blocks behind the heap (the library's 'var a [24]byte'), draws. (LAID: no walk: one application.) -/
theorem Tryz.strconv_Itoa (n : Int) (h0 : -9223372036854775808 ≤ n) (h1 : n ≤ 9223372036854775807) (w : World) (htab : Lib.TabIs Tryz.prog w "internal/strconv.uint64pow10" .u64 Lib.pow10Tab) :
    Calls Tryz.prog 24 #[.int .i64 n] w fun e w' => e = .returned (.string ⟨(Lib.itoa n).toArray⟩) ∧ ∃ k os, w' = grow (w.drewN k) os := Any.strconv_Itoa Tryz.laysM171 n h0 h1 w htab
def Tryz.laysC172_ren : Go.Shelf.Ren := ⟨fun | 172 => 38 | 244 => 59 | 245 => 60 | 247 => 74 | 279 => 75 | 280 => 76 | 281 => 77 | 282 => 78 | 287 => 97 | 316 => 98 | 171 => 24 | 205 => 99 | 321 => 110 | 322 => 111 | 243 => 40 | 246 => 63 | 283 => 81 | 284 => 82 | 285 => 83 | 286 => 84 | 129 => 96 | 317 => 101 | 318 => 102 | 319 => 103 | 320 => 104 | 337 => 113 | 338 => 114 | n => n, fun | 9 => 9 | 3 => 3 | 75 => 71 | 76 => 72 | 4 => 4 | 5 => 5 | 167 => 111 | 37 => 80 | 0 => 0 | 85 => 112 | 2 => 2 | 168 => 114 | 53 => 102 | 175 => 136 | 46 => 76 | 210 => 140 | 127 => 105 | 145 => 154 | 143 => 152 | 21 => 21 | 171 => 119 | 173 => 122 | 212 => 143 | 51 => 99 | 20 => 20 | 213 => 144 | 232 => 159 | 233 => 160 | 80 => 85 | n => n, fun | 15 => 1 | 16 => 2 | 17 => 3 | 18 => 5 | 19 => 6 | n => n⟩
theorem Tryz.laysC172 : Go.Proofs.LaysC.n172 Tryz.prog Tryz.laysC172_ren := {
  mixed := by kernel_rfl
  f129 := Tryz.func96.trans (congrArg some (by kernel_rfl))
  f171 := Tryz.func24.trans (congrArg some (by kernel_rfl))
  f172 := Tryz.func38.trans (congrArg some (by kernel_rfl))
  f205 := Tryz.func99.trans (congrArg some (by kernel_rfl))
  f243 := Tryz.func40.trans (congrArg some (by kernel_rfl))
  f244 := Tryz.func59.trans (congrArg some (by kernel_rfl))
  f245 := Tryz.func60.trans (congrArg some (by kernel_rfl))
  f246 := Tryz.func63.trans (congrArg some (by kernel_rfl))
  f247 := Tryz.func74.trans (congrArg some (by kernel_rfl))
  f279 := Tryz.func75.trans (congrArg some (by kernel_rfl))
  f280 := Tryz.func76.trans (congrArg some (by kernel_rfl))
  f281 := Tryz.func77.trans (congrArg some (by kernel_rfl))
  f282 := Tryz.func78.trans (congrArg some (by kernel_rfl))
  f283 := Tryz.func81.trans (congrArg some (by kernel_rfl))
  f284 := Tryz.func82.trans (congrArg some (by kernel_rfl))
  f285 := Tryz.func83.trans (congrArg some (by kernel_rfl))
  f286 := Tryz.func84.trans (congrArg some (by kernel_rfl))
  f287 := Tryz.func97.trans (congrArg some (by kernel_rfl))
  f316 := Tryz.func98.trans (congrArg some (by kernel_rfl))
  f317 := Tryz.func101.trans (congrArg some (by kernel_rfl))
  f318 := Tryz.func102.trans (congrArg some (by kernel_rfl))
  f319 := Tryz.func103.trans (congrArg some (by kernel_rfl))
  f320 := Tryz.func104.trans (congrArg some (by kernel_rfl))
  f321 := Tryz.func110.trans (congrArg some (by kernel_rfl))
  f322 := Tryz.func111.trans (congrArg some (by kernel_rfl))
  f337 := Tryz.func113.trans (congrArg some (by kernel_rfl))
  f338 := Tryz.func114.trans (congrArg some (by kernel_rfl))
  t0 := Tryz.underlying0
  a0 := Tryz.isAgg0
  z0 := Tryz.sizeOf0
  v0 := Tryz.zeroValue0
  t2 := Tryz.underlying2
  a2 := Tryz.isAgg2
  z2 := Tryz.sizeOf2
  v2 := Tryz.zeroValue2
  t3 := Tryz.underlying3
  a3 := Tryz.isAgg3
  z3 := Tryz.sizeOf3
  v3 := Tryz.zeroValue3
  t4 := Tryz.underlying4
  a4 := Tryz.isAgg4
  z4 := Tryz.sizeOf4
  v4 := Tryz.zeroValue4
  t5 := Tryz.underlying5
  a5 := Tryz.isAgg5
  z5 := Tryz.sizeOf5
  v5 := Tryz.zeroValue5
  t9 := Tryz.underlying9
  a9 := Tryz.isAgg9
  z9 := Tryz.sizeOf9
  v9 := Tryz.zeroValue9
  t20 := Tryz.underlying20
  a20 := Tryz.isAgg20
  z20 := Tryz.sizeOf20
  v20 := Tryz.zeroValue20
  t21 := Tryz.underlying21
  a21 := Tryz.isAgg21
  z21 := Tryz.sizeOf21
  v21 := Tryz.zeroValue21
  t37 := Tryz.underlying80
  a37 := Tryz.isAgg80
  z37 := Tryz.sizeOf80
  v37 := Tryz.zeroValue80
  t46 := Tryz.underlying76
  a46 := Tryz.isAgg76
  z46 := Tryz.sizeOf76
  v46 := Tryz.zeroValue76
  t51 := Tryz.underlying99
  a51 := Tryz.isAgg99
  z51 := Tryz.sizeOf99
  v51 := Tryz.zeroValue99
  t53 := Tryz.underlying102
  a53 := Tryz.isAgg102
  z53 := Tryz.sizeOf102
  v53 := Tryz.zeroValue102
  t75 := Tryz.underlying71
  a75 := Tryz.isAgg71
  z75 := Tryz.sizeOf71
  v75 := Tryz.zeroValue71
  t76 := Tryz.underlying72
  a76 := Tryz.isAgg72
  z76 := Tryz.sizeOf72
  v76 := Tryz.zeroValue72
  t85 := Tryz.underlying112
  a85 := Tryz.isAgg112
  z85 := Tryz.sizeOf112
  v85 := Tryz.zeroValue112
  t127 := Tryz.underlying105
  a127 := Tryz.isAgg105
  z127 := Tryz.sizeOf105
  v127 := Tryz.zeroValue105
  t143 := Tryz.underlying152
  a143 := Tryz.isAgg152
  z143 := Tryz.sizeOf152
  v143 := Tryz.zeroValue152
  t145 := Tryz.underlying154
  a145 := Tryz.isAgg154
  z145 := Tryz.sizeOf154
  v145 := Tryz.zeroValue154
  t167 := Tryz.underlying111
  a167 := Tryz.isAgg111
  z167 := Tryz.sizeOf111
  v167 := Tryz.zeroValue111
  t168 := Tryz.underlying114
  a168 := Tryz.isAgg114
  z168 := Tryz.sizeOf114
  v168 := Tryz.zeroValue114
  t171 := Tryz.underlying119
  a171 := Tryz.isAgg119
  z171 := Tryz.sizeOf119
  v171 := Tryz.zeroValue119
  t173 := Tryz.underlying122
  a173 := Tryz.isAgg122
  z173 := Tryz.sizeOf122
  v173 := Tryz.zeroValue122
  t175 := Tryz.underlying136
  a175 := Tryz.isAgg136
  z175 := Tryz.sizeOf136
  v175 := Tryz.zeroValue136
  t210 := Tryz.underlying140
  a210 := Tryz.isAgg140
  z210 := Tryz.sizeOf140
  v210 := Tryz.zeroValue140
  t212 := Tryz.underlying143
  a212 := Tryz.isAgg143
  z212 := Tryz.sizeOf143
  v212 := Tryz.zeroValue143
  t213 := Tryz.underlying144
  a213 := Tryz.isAgg144
  z213 := Tryz.sizeOf144
  t232 := Tryz.underlying159
  a232 := Tryz.isAgg159
  z232 := Tryz.sizeOf159
  v232 := Tryz.zeroValue159
  t233 := Tryz.underlying160
  a233 := Tryz.isAgg160
  z233 := Tryz.sizeOf160
  v233 := Tryz.zeroValue160
  g15 := by kernel_rfl
  g16 := by kernel_rfl
  g17 := by kernel_rfl
  g18 := by kernel_rfl
  g19 := by kernel_rfl
  t80 := Tryz.underlying85
  a80 := Tryz.isAgg85
  z80 := Tryz.sizeOf85
  v80 := Tryz.zeroValue85
  i0 := by kernel_rfl
  i2 := by kernel_rfl
  i3 := by kernel_rfl
  i4 := by kernel_rfl
  i5 := by kernel_rfl
  i9 := by kernel_rfl
  i20 := by kernel_rfl
  i21 := by kernel_rfl
  i37 := by kernel_rfl
  i46 := by kernel_rfl
  i51 := by kernel_rfl
  i53 := by kernel_rfl
  i75 := by kernel_rfl
  i76 := by kernel_rfl
  i80 := by kernel_rfl
  i85 := by kernel_rfl
  i127 := by kernel_rfl
  i143 := by kernel_rfl
  i145 := by kernel_rfl
  i167 := by kernel_rfl
  i168 := by kernel_rfl
  i171 := by kernel_rfl
  i173 := by kernel_rfl
  i175 := by kernel_rfl
  i210 := by kernel_rfl
  i212 := by kernel_rfl
  i232 := by kernel_rfl
  i233 := by kernel_rfl
  m15 := by kernel_rfl
  m16 := by kernel_rfl
  m17 := by kernel_rfl
  m18 := by kernel_rfl
  m19 := by kernel_rfl
  c0 := by kernel_rfl
  c2 := by kernel_rfl
  c3 := by kernel_rfl
  c4 := by kernel_rfl
  c5 := by kernel_rfl
  c9 := by kernel_rfl
  c20 := by kernel_rfl
  c21 := by kernel_rfl
  c37 := by kernel_rfl
  c46 := by kernel_rfl
  c51 := by kernel_rfl
  c53 := by kernel_rfl
  c75 := by kernel_rfl
  c76 := by kernel_rfl
  c80 := by kernel_rfl
  c85 := by kernel_rfl
  c127 := by kernel_rfl
  c143 := by kernel_rfl
  c145 := by kernel_rfl
  c167 := by kernel_rfl
  c168 := by kernel_rfl
  c171 := by kernel_rfl
  c173 := by kernel_rfl
  c175 := by kernel_rfl
  c210 := by kernel_rfl
  c212 := by kernel_rfl
  c213 := by kernel_rfl
  c232 := by kernel_rfl
  c233 := by kernel_rfl }
open Go.RowKit in
/-- strconv.Atoi, AT EVERY STRING THAT SPELLS AN int ('Lib.atoiAll .. = .ok v'; of whatever length: leading zeros count): v, AND NO ERROR. The world: as it was, or with the one new row that '[]byte(..)' lays. (LAID: no walk: one application.) -/
theorem Tryz.strconv_Atoi_ok (s : ByteArray) (hmax : s.size ≤ 9223372036854775806) (v : Int) (h : Lib.atoiAll s.data.toList = .ok v) (w : World) :
    Calls Tryz.prog 38 #[.string s] w fun e w' => e = .returned (.tuple #[.int .i64 v, .nilIface]) ∧ (w' = w ∨ ∃ t, w' = Lib.bytesWorld w 5 t) := Any.strconv_Atoi_ok Tryz.laysC172 s hmax v h w
open Go.RowKit in
theorem Tryz.strconv_Atoi_range_var (s : ByteArray) (hlim : s.size ≤ 281474976710656) (h : Lib.atoiAll s.data.toList = .range) (tp : TypeId) (p : Value) (w : World) (hvar : w.var? Tryz.prog "strconv.ErrRange" = some #[.iface tp p]) :
    Calls Tryz.prog 38 #[.string s] w fun e w' => ∃ N, e = .returned (.tuple #[.int .i64 (Lib.atoiSat s.data.toList), .iface 114 (.pointer (some ⟨N, 0, none⟩))]) ∧ w.heap.size ≤ N ∧ w'.heap[N]? = some (.cells #[.string ⟨#[65, 116, 111, 105]⟩, .string s, .iface tp p] 140 (0, 0)) ∧ Below w.heap.size w w' := Any.strconv_Atoi_range_var Tryz.laysC172 s hlim h tp p w hvar
def Tryz.lays99_ren : Go.Shelf.Ren := ⟨fun | 99 => 34 | 206 => 54 | n => n, fun | 9 => 9 | 4 => 4 | 3 => 3 | n => n, fun | n => n⟩
theorem Tryz.lays99 : Go.Proofs.Lays.n99 Tryz.prog Tryz.lays99_ren := {
  mixed := by kernel_rfl
  f99 := Tryz.func34.trans (congrArg some (by kernel_rfl))
  f206 := Tryz.func54.trans (congrArg some (by kernel_rfl))
  t3 := Tryz.underlying3
  a3 := Tryz.isAgg3
  z3 := Tryz.sizeOf3
  v3 := Tryz.zeroValue3
  t4 := Tryz.underlying4
  a4 := Tryz.isAgg4
  z4 := Tryz.sizeOf4
  v4 := Tryz.zeroValue4
  t9 := Tryz.underlying9
  a9 := Tryz.isAgg9
  z9 := Tryz.sizeOf9
  v9 := Tryz.zeroValue9 }
open Go.RowKit Go.Lib in
/-- strings.HasPrefix: "HasPrefix reports whether the string s begins with prefix.": IT RETURNS 'Lib.hasPrefix s prefix'; the world is as it was. (LAID: no walk: one application.) -/
theorem Tryz.strings_HasPrefix (s p : ByteArray) (w : World) :
    Calls Tryz.prog 34 #[.string s, .string p] w fun e w' => e = .returned (.bool (Lib.hasPrefix s.data.toList p.data.toList)) ∧ w' = w := Any.strings_HasPrefix Tryz.lays99 s p w
def Tryz.lays151_ren : Go.Shelf.Ren := ⟨fun | 151 => 14 | 152 => 36 | 137 => 35 | 119 => 56 | 224 => 57 | 225 => 58 | 217 => 55 | 266 => 73 | n => n, fun | 9 => 9 | 21 => 21 | 4 => 4 | 3 => 3 | 5 => 5 | 0 => 0 | 46 => 76 | n => n, fun | n => n⟩
theorem Tryz.lays151 : Go.Proofs.Lays.n151 Tryz.prog Tryz.lays151_ren := {
  mixed := by kernel_rfl
  f119 := Tryz.func56.trans (congrArg some (by kernel_rfl))
  f137 := Tryz.func35.trans (congrArg some (by kernel_rfl))
  f151 := Tryz.func14.trans (congrArg some (by kernel_rfl))
  f152 := Tryz.func36.trans (congrArg some (by kernel_rfl))
  f217 := Tryz.func55.trans (congrArg some (by kernel_rfl))
  f224 := Tryz.func57.trans (congrArg some (by kernel_rfl))
  f225 := Tryz.func58.trans (congrArg some (by kernel_rfl))
  f266 := Tryz.func73.trans (congrArg some (by kernel_rfl))
  t0 := Tryz.underlying0
  a0 := Tryz.isAgg0
  z0 := Tryz.sizeOf0
  v0 := Tryz.zeroValue0
  t3 := Tryz.underlying3
  a3 := Tryz.isAgg3
  z3 := Tryz.sizeOf3
  v3 := Tryz.zeroValue3
  t4 := Tryz.underlying4
  a4 := Tryz.isAgg4
  z4 := Tryz.sizeOf4
  v4 := Tryz.zeroValue4
  t5 := Tryz.underlying5
  a5 := Tryz.isAgg5
  z5 := Tryz.sizeOf5
  v5 := Tryz.zeroValue5
  t9 := Tryz.underlying9
  a9 := Tryz.isAgg9
  z9 := Tryz.sizeOf9
  v9 := Tryz.zeroValue9
  t21 := Tryz.underlying21
  a21 := Tryz.isAgg21
  z21 := Tryz.sizeOf21
  v21 := Tryz.zeroValue21
  t46 := Tryz.underlying76
  a46 := Tryz.isAgg76
  z46 := Tryz.sizeOf76
  v46 := Tryz.zeroValue76 }
open Go.RowKit Go.Lib in
theorem Tryz.strings_ContainsRune_ascii (s : ByteArray) (r : Int) (w : World) (h0 : 0 ≤ r) (h1 : r < 128) :
    Calls Tryz.prog 14 #[.string s, .int .i32 r] w fun e w' => e = .returned (.bool (decide (0 ≤ Lib.indexByte s.data.toList r.toNat.toUInt8))) ∧ w' = w := Any.strings_ContainsRune_ascii Tryz.lays151 s r w h0 h1
def Tryz.lays105_ren : Go.Shelf.Ren := ⟨fun | 105 => 25 | 212 => 41 | 99 => 34 | 165 => 42 | 166 => 43 | 170 => 44 | 169 => 45 | 263 => 64 | 264 => 65 | 206 => 54 | 240 => 66 | 241 => 67 | 276 => 85 | 277 => 86 | n => n, fun | 9 => 9 | 3 => 3 | 4 => 4 | 20 => 20 | 0 => 0 | 46 => 76 | 109 => 77 | 5 => 5 | 72 => 82 | 76 => 72 | 51 => 99 | 146 => 100 | 53 => 102 | 148 => 103 | 70 => 79 | 37 => 80 | 75 => 71 | 127 => 105 | 164 => 124 | 80 => 85 | n => n, fun | n => n⟩
theorem Tryz.lays105 : Go.Proofs.Lays.n105 Tryz.prog Tryz.lays105_ren := {
  mixed := by kernel_rfl
  f99 := Tryz.func34.trans (congrArg some (by kernel_rfl))
  f105 := Tryz.func25.trans (congrArg some (by kernel_rfl))
  f165 := Tryz.func42.trans (congrArg some (by kernel_rfl))
  f166 := Tryz.func43.trans (congrArg some (by kernel_rfl))
  f169 := Tryz.func45.trans (congrArg some (by kernel_rfl))
  f170 := Tryz.func44.trans (congrArg some (by kernel_rfl))
  f206 := Tryz.func54.trans (congrArg some (by kernel_rfl))
  f212 := Tryz.func41.trans (congrArg some (by kernel_rfl))
  f240 := Tryz.func66.trans (congrArg some (by kernel_rfl))
  f241 := Tryz.func67.trans (congrArg some (by kernel_rfl))
  f263 := Tryz.func64.trans (congrArg some (by kernel_rfl))
  f264 := Tryz.func65.trans (congrArg some (by kernel_rfl))
  f276 := Tryz.func85.trans (congrArg some (by kernel_rfl))
  f277 := Tryz.func86.trans (congrArg some (by kernel_rfl))
  t0 := Tryz.underlying0
  a0 := Tryz.isAgg0
  z0 := Tryz.sizeOf0
  v0 := Tryz.zeroValue0
  t3 := Tryz.underlying3
  a3 := Tryz.isAgg3
  z3 := Tryz.sizeOf3
  v3 := Tryz.zeroValue3
  t4 := Tryz.underlying4
  a4 := Tryz.isAgg4
  z4 := Tryz.sizeOf4
  v4 := Tryz.zeroValue4
  t5 := Tryz.underlying5
  a5 := Tryz.isAgg5
  z5 := Tryz.sizeOf5
  v5 := Tryz.zeroValue5
  t9 := Tryz.underlying9
  a9 := Tryz.isAgg9
  z9 := Tryz.sizeOf9
  v9 := Tryz.zeroValue9
  t20 := Tryz.underlying20
  a20 := Tryz.isAgg20
  z20 := Tryz.sizeOf20
  v20 := Tryz.zeroValue20
  t37 := Tryz.underlying80
  a37 := Tryz.isAgg80
  z37 := Tryz.sizeOf80
  v37 := Tryz.zeroValue80
  t46 := Tryz.underlying76
  a46 := Tryz.isAgg76
  z46 := Tryz.sizeOf76
  v46 := Tryz.zeroValue76
  t51 := Tryz.underlying99
  a51 := Tryz.isAgg99
  z51 := Tryz.sizeOf99
  v51 := Tryz.zeroValue99
  t53 := Tryz.underlying102
  a53 := Tryz.isAgg102
  z53 := Tryz.sizeOf102
  v53 := Tryz.zeroValue102
  t70 := Tryz.underlying79
  a70 := Tryz.isAgg79
  z70 := Tryz.sizeOf79
  v70 := Tryz.zeroValue79
  t72 := Tryz.underlying82
  a72 := Tryz.isAgg82
  z72 := Tryz.sizeOf82
  v72 := Tryz.zeroValue82
  t75 := Tryz.underlying71
  a75 := Tryz.isAgg71
  z75 := Tryz.sizeOf71
  v75 := Tryz.zeroValue71
  t76 := Tryz.underlying72
  a76 := Tryz.isAgg72
  z76 := Tryz.sizeOf72
  v76 := Tryz.zeroValue72
  t109 := Tryz.underlying77
  a109 := Tryz.isAgg77
  z109 := Tryz.sizeOf77
  v109 := Tryz.zeroValue77
  t127 := Tryz.underlying105
  a127 := Tryz.isAgg105
  z127 := Tryz.sizeOf105
  v127 := Tryz.zeroValue105
  t146 := Tryz.underlying100
  a146 := Tryz.isAgg100
  z146 := Tryz.sizeOf100
  v146 := Tryz.zeroValue100
  t148 := Tryz.underlying103
  a148 := Tryz.isAgg103
  z148 := Tryz.sizeOf103
  v148 := Tryz.zeroValue103
  t164 := Tryz.underlying124
  a164 := Tryz.isAgg124
  z164 := Tryz.sizeOf124
  v164 := Tryz.zeroValue124 }
theorem Tryz.Builder_Extra_105 : Builder.Extra Tryz.prog Tryz.lays105_ren := {
  sizeBuilder := by kernel_rfl
  liesBuilder := by kernel_rfl
  t5 := Tryz.underlying5
  a5 := Tryz.isAgg5
  z5 := Tryz.sizeOf5
  v5 := Tryz.zeroValue5
  infoByte := by kernel_rfl
  cellsByte := by kernel_rfl
  sizeByte := by kernel_rfl
  neB5 := by decide }
open Go.RowKit Go.Lib in
/-- **strings.Repeat: count ≥ 0, the result within one allocation: count copies of s.** (LAID: no walk: one application.) -/
theorem Tryz.strings_Repeat (s : ByteArray) (c : Nat) (w : World) (hc : c ≤ 9223372036854775807) (hlen : s.size * c ≤ 140737488355328) :
    Calls Tryz.prog 25 #[.string s, .int .i64 c] w fun e w' => e = .returned (.string ⟨(Lib.repeatL s.data.toList c).toArray⟩) ∧ Below w.heap.size w w' := Any.strings_Repeat Tryz.lays105 Tryz.Builder_Extra_105 s c w hc hlen
end Go.Proofs

/- The contracts of 'word' and 'symbol'. -/
namespace Go.Proofs.YtngjghblpbdciaaGreatDoor
open Go Go.RowKit

def wordT (l : List UInt8) : T1 := if 12 < twn wch l then .err 2 else .ok 1 (twn wch l) 0
def numT (l : List UInt8) : T1 :=
  if 1 < twn dig l ∧ l.head? = some 48 then .err 20
  else if 2147483647 < dval 0 (l.takeWhile dig) then .err 5 else .ok 2 (twn dig l) (dval 0 (l.takeWhile dig))
def dayT (l : List UInt8) : T1 := if dated l then (match dayP ((l.drop 1).take 10) with | some d => .ok 3 11 d | none => .err 5) else .err 20
def symT (l : List UInt8) : T1 := if symN l = 0 then .err 20 else .ok 4 (symN l) 0
theorem tok1_word {c : UInt8} {r : List UInt8} (h : low c = true) : tok1 (c :: r) = wordT (c :: r) := by
  rw [tok1_cons, if_pos h]; rfl
theorem tok1_num {c : UInt8} {r : List UInt8} (h : low c = false) (h1 : dig c = true) : tok1 (c :: r) = numT (c :: r) := by
  rw [tok1_cons, if_neg (by rw [h]; decide), if_pos h1, numT, List.head?_cons]
  simp only [Option.some.injEq, twn]
theorem tok1_day {c : UInt8} {r : List UInt8} (h : low c = false) (h1 : dig c = false) (h2 : c = 64) : tok1 (c :: r) = dayT (c :: r) := by
  rw [tok1_cons, if_neg (by rw [h]; decide), if_neg (by rw [h1]; decide), if_pos h2]; rfl
theorem tok1_sym {c : UInt8} {r : List UInt8} (h : low c = false) (h1 : dig c = false) (h2 : c ≠ 64) : tok1 (c :: r) = symT (c :: r) := by
  rw [tok1_cons, if_neg (by rw [h]; decide), if_neg (by rw [h1]; decide), if_neg h2]; rfl
/-- What a token's reader answers. -/
def TPost (t : T1) (s : ByteArray) (w : World) (e : Ending) (w' : World) : Prop :=
  match t with
  | .err x => e = .returned (.tuple #[.agg #[.int .i64 0, .int .i64 0, .string ⟨#[]⟩, .int .i64 0], .int .i64 x]) ∧ Ext w w'
  | .ok k n v => (∃ S : ByteArray, S.data.toList = s.data.toList.take n ∧ e = .returned (.tuple #[.agg #[.int .i64 k, .int .i64 0, .string S, .int .i64 v], .int .i64 0])) ∧ Ext w w'
theorem extract_take (s : ByteArray) (n : Nat) : (s.extract 0 n).data.toList = s.data.toList.take n := by
  rw [ByteArray.data_extract, Array.toList_extract]; simp [List.extract]
theorem twn_size (p : UInt8 → Bool) (s : ByteArray) : twn p s.data.toList ≤ s.size := by
  rw [← list_size]; exact (List.takeWhile_sublist _).length_le
theorem tpost_err {t : T1} {x y : Int} {s : ByteArray} {w w' : World} (h : t = .err x) (hy : y = x) (hx : Ext w w') :
    TPost t s w (.returned (.tuple #[.agg #[.int .i64 0, .int .i64 0, .string ⟨#[]⟩, .int .i64 0], .int .i64 y])) w' := by
  subst h; subst hy; exact ⟨rfl, hx⟩
theorem tpost_ok {t : T1} {k v k' v' : Int} {n : Nat} {s S : ByteArray} {w w' : World} (h : t = .ok k n v) (hk : k' = k) (hv : v' = v) (hS : S.data.toList = s.data.toList.take n) (hx : Ext w w') :
    TPost t s w (.returned (.tuple #[.agg #[.int .i64 k', .int .i64 0, .string S, .int .i64 v'], .int .i64 0])) w' := by
  subst h; subst hk; subst hv; exact ⟨⟨S, hS, rfl⟩, hx⟩
/-- A token in a block of its own, not frozen. -/
structure TBox (W : World) (b : Nat) (k a : Int) (S : ByteArray) (v : Int) : Prop where
  lt : b < W.heap.size
  c0 : W.cell? ⟨b, 0, none⟩ = some (.int .i64 k)
  c1 : W.cell? ⟨b, 1, none⟩ = some (.int .i64 a)
  c2 : W.cell? ⟨b, 2, none⟩ = some (.string S)
  c3 : W.cell? ⟨b, 3, none⟩ = some (.int .i64 v)
  f0 : W.frozen? ⟨b, 0, none⟩ = false
  f1 : W.frozen? ⟨b, 1, none⟩ = false
  f2 : W.frozen? ⟨b, 2, none⟩ = false
  f3 : W.frozen? ⟨b, 3, none⟩ = false
theorem TBox.ext {W W' : World} {b : Nat} {k a v : Int} {S : ByteArray} (h : TBox W b k a S v) (hx : Ext W W') : TBox W' b k a S v := by
  obtain ⟨q, p⟩ := hx.cells
  exact ⟨Nat.lt_of_lt_of_le h.lt hx.lt, by rw [q _ _ h.lt]; exact h.c0, by rw [q _ _ h.lt]; exact h.c1, by rw [q _ _ h.lt]; exact h.c2, by rw [q _ _ h.lt]; exact h.c3,
    by rw [p _ _ h.lt]; exact h.f0, by rw [p _ _ h.lt]; exact h.f1, by rw [p _ _ h.lt]; exact h.f2, by rw [p _ _ h.lt]; exact h.f3⟩
theorem TBox.new (W : World) (k a v : Int) (S : ByteArray) (t : TypeId) : TBox (W.alloc (.cells #[.int .i64 k, .int .i64 a, .string S, .int .i64 v] t)) W.heap.size k a S v :=
  ⟨by simp, by go_simp, by go_simp, by go_simp, by go_simp, by go_simp, by go_simp, by go_simp, by go_simp⟩
theorem Ext.store4 {w W : World} {b : Nat} (h : Ext w W) (hb : w.heap.size ≤ b) (u0 u1 u2 u3 : Value) :
    Ext w ((((W.setCell ⟨b, 0, none⟩ u0).setCell ⟨b, 1, none⟩ u1).setCell ⟨b, 2, none⟩ u2).setCell ⟨b, 3, none⟩ u3) :=
  (((h.setCell (p := ⟨b, 0, none⟩) hb u0).setCell (p := ⟨b, 1, none⟩) hb u1).setCell (p := ⟨b, 2, none⟩) hb u2).setCell (p := ⟨b, 3, none⟩) hb u3
set_option maxHeartbeats 4000000 in
set_option maxRecDepth 100000 in
theorem word_any (s : ByteArray) (w : World) (hs : s.size ≤ 281474976710656) : Calls Tryz.prog 18 #[.string s] w (TPost (wordT s.data.toList) s w) := by
  have HF := Lib.hid (fun X => first47_any s X hs)
  have hz := twn_size wch s
  obtain ⟨n, hn⟩ : ∃ n, n = twn wch s.data.toList := ⟨_, rfl⟩
  rw [← hn] at HF hz
  have HN := Lib.hid hn
  clear hn
  by_cases h12 : 12 < n
  · have h12' : (12 : Int) < (n : Int) := by omega
    have hT : wordT s.data.toList = .err 2 := by rw [wordT, ← HN.out, if_pos h12]
    have HT := Lib.hid hT
    clear hT HN
    go_enter Tryz.func18, Tryz.ntmps18
    go_wp2_with (first | (go_at_call 15; refine (HF.out _).mono ?_; rintro e w1 ⟨rfl, hx⟩; have q := (TBox.new w 0 0 0 ⟨#[]⟩ 35).ext hx; have hx0 := ((Ext.refl w).alloc _).trans hx; obtain ⟨q0, q1, q2, q3, q4, q5, q6, q7, q8⟩ := q))
    refine bodyPost_ret (v := .tuple #[.agg #[.int .i64 0, .int .i64 0, .string ⟨#[]⟩, .int .i64 0], .int .i64 2]) (by simp [results, Tryz.results18, go_sem, *]) rfl ?_
    exact tpost_err HT.out rfl (hx0.store4 (Nat.le_refl _) _ _ _ _)
  · have h12' : ¬ (12 : Int) < (n : Int) := by omega
    have hT : wordT s.data.toList = .ok 1 n 0 := by rw [wordT, ← HN.out, if_neg h12]
    have HT := Lib.hid hT
    clear hT HN
    go_enter Tryz.func18, Tryz.ntmps18
    go_wp2_with (first | (go_at_call 15; refine (HF.out _).mono ?_; rintro e w1 ⟨rfl, hx⟩; have q := (TBox.new w 0 0 0 ⟨#[]⟩ 35).ext hx; have hx0 := ((Ext.refl w).alloc _).trans hx; obtain ⟨q0, q1, q2, q3, q4, q5, q6, q7, q8⟩ := q))
    refine bodyPost_ret (v := .tuple #[.agg #[.int .i64 1, .int .i64 0, .string (s.extract 0 n), .int .i64 0], .int .i64 0]) (by simp [results, Tryz.results18, go_sem, *]) rfl ?_
    exact tpost_ok HT.out rfl rfl (extract_take _ _) (hx0.store4 (Nat.le_refl _) _ _ _ _)
end Go.Proofs.YtngjghblpbdciaaGreatDoor

/- The contract of 'symbol'. -/
namespace Go.Proofs.YtngjghblpbdciaaGreatDoor
open Go Go.RowKit

theorem index_mem : ∀ (l : List UInt8) (c : UInt8), (0 ≤ Lib.indexByte l c) ↔ c ∈ l
  | [], c => by simp [Lib.indexByte]
  | b :: l, c => by
    have ih := index_mem l c
    have hg := Lib.indexByte_ge l c
    rw [Lib.indexByte]
    by_cases h : b = c
    · simp [h]
    · have h' : (b == c) = false := by simpa using h
      have h2 : ¬ c = b := fun e => h e.symm
      simp only [h', List.mem_cons, h2, false_or]
      by_cases h3 : Lib.indexByte l c = -1
      · simp only [h3, ← ih]; decide
      · have : (Lib.indexByte l c == -1) = false := by simpa using h3
        simp only [this, ← ih]
        simp
        omega
theorem prefix2 (c a : UInt8) (r : List UInt8) : Lib.hasPrefix (c :: r) [a, 61] = true ↔ c = a ∧ r.head? = some 61 := by
  cases r with
  | nil => simp [Lib.hasPrefix]
  | cons d r => simp [Lib.hasPrefix]; constructor <;> (rintro ⟨h1, h2⟩; exact ⟨h1.symm, h2.symm⟩)
theorem prefix_two {s : ByteArray} {a : UInt8} (h : Lib.hasPrefix s.data.toList [a, 61] = true) : 2 ≤ s.size := by
  rw [← list_size]
  have : ([a, 61] : List UInt8).length ≤ s.data.toList.length := (List.isPrefixOf_iff_prefix.1 h).length_le
  exact this
theorem sym_two {l : List UInt8} {a : UInt8} (ha : a = 60 ∨ a = 33 ∨ a = 62) (h : Lib.hasPrefix l [a, 61] = true) : symT l = .ok 4 2 0 := by
  cases l with
  | nil => simp [Lib.hasPrefix] at h
  | cons c r =>
    obtain ⟨rfl, h2⟩ := (prefix2 c a r).1 h
    have e : symN (c :: r) = 2 := by rw [symN_cons, if_pos ⟨ha, h2⟩]
    rw [symT, e]
    rfl
theorem sym_no {c : UInt8} {r : List UInt8} (h1 : Lib.hasPrefix (c :: r) [60, 61] = false) (h2 : Lib.hasPrefix (c :: r) [33, 61] = false) (h3 : Lib.hasPrefix (c :: r) [62, 61] = false) :
    ¬ ((c = 60 ∨ c = 33 ∨ c = 62) ∧ r.head? = some 61) := by
  rintro ⟨h | h | h, h4⟩ <;> subst h
  · exact absurd ((prefix2 _ _ _).2 ⟨rfl, h4⟩) (by rw [h1]; decide)
  · exact absurd ((prefix2 _ _ _).2 ⟨rfl, h4⟩) (by rw [h2]; decide)
  · exact absurd ((prefix2 _ _ _).2 ⟨rfl, h4⟩) (by rw [h3]; decide)
theorem idx_any (s : ByteArray) (h0 : 0 < s.size) (v : Int) (hv : v = Lib.indexByte [123, 125, 40, 41, 59, 44, 43, 45, 42, 60, 61, 62] s[0]) (X : World) :
    Calls Tryz.prog 35 #[.string ⟨#[123, 125, 40, 41, 59, 44, 43, 45, 42, 60, 61, 62]⟩, .int .u8 (s[0].toNat : Int)] X fun e X' => e = .returned (.int .i64 v) ∧ X' = X := by
  refine (Tryz.strings_IndexByte _ _ _).mono ?_
  rintro e X' ⟨rfl, rfl⟩
  refine ⟨?_, rfl⟩
  rw [hv]
  simp
def symL : List UInt8 := [123, 125, 40, 41, 59, 44, 43, 45, 42, 60, 61, 62]
theorem sym_one {c : UInt8} {r : List UInt8} (h : ¬ ((c = 60 ∨ c = 33 ∨ c = 62) ∧ r.head? = some 61)) (hm : c ∈ symL) : symT (c :: r) = .ok 4 1 0 := by
  have e : symN (c :: r) = 1 := by rw [symN_cons, if_neg h, if_pos (by simpa [symL] using hm)]
  rw [symT, e]
  rfl
theorem sym_none {c : UInt8} {r : List UInt8} (h : ¬ ((c = 60 ∨ c = 33 ∨ c = 62) ∧ r.head? = some 61)) (hm : c ∉ symL) : symT (c :: r) = .err 20 := by
  have e : symN (c :: r) = 0 := by rw [symN_cons, if_neg h, if_neg (fun h => hm (by simpa [symL] using h))]
  rw [symT, e]
  rfl
set_option maxHeartbeats 4000000 in
set_option maxRecDepth 100000 in
theorem sym_any (s : ByteArray) (w : World) (hs : s.size ≤ 281474976710656) (h0 : 0 < s.size) : Calls Tryz.prog 13 #[.string s] w (TPost (symT s.data.toList) s w) := by
  have hl := get_list s 0 h0
  rw [List.drop_zero] at hl
  cases h1 : Lib.hasPrefix s.data.toList [60, 61] with
  | true =>
    have HT := Lib.hid (sym_two (.inl rfl) h1)
    have hsz : 2 ≤ s.size := prefix_two h1
    clear hl
    go_enter Tryz.func13, Tryz.ntmps13
    go_wp2_with (first | (go_at_call 34; refine (Tryz.strings_HasPrefix _ _ _).mono ?_; rintro e w1 ⟨rfl, rfl⟩))
    refine bodyPost_ret (v := .tuple #[.agg #[.int .i64 4, .int .i64 0, .string (s.extract 0 2), .int .i64 0], .int .i64 0]) (by simp [results, Tryz.results13, go_sem, *]) rfl ?_
    exact tpost_ok HT.out rfl rfl (extract_take _ _) ((Ext.refl w).alloc _)
  | false =>
    cases h2 : Lib.hasPrefix s.data.toList [33, 61] with
    | true =>
      have HT := Lib.hid (sym_two (.inr (.inl rfl)) h2)
      have hsz : 2 ≤ s.size := prefix_two h2
      clear hl
      go_enter Tryz.func13, Tryz.ntmps13
      go_wp2_with (first | (go_at_call 34; refine (Tryz.strings_HasPrefix _ _ _).mono ?_; rintro e w1 ⟨rfl, rfl⟩))
      refine bodyPost_ret (v := .tuple #[.agg #[.int .i64 4, .int .i64 0, .string (s.extract 0 2), .int .i64 0], .int .i64 0]) (by simp [results, Tryz.results13, go_sem, *]) rfl ?_
      exact tpost_ok HT.out rfl rfl (extract_take _ _) ((Ext.refl w).alloc _)
    | false =>
      cases h3 : Lib.hasPrefix s.data.toList [62, 61] with
      | true =>
        have HT := Lib.hid (sym_two (.inr (.inr rfl)) h3)
        have hsz : 2 ≤ s.size := prefix_two h3
        clear hl
        go_enter Tryz.func13, Tryz.ntmps13
        go_wp2_with (first | (go_at_call 34; refine (Tryz.strings_HasPrefix _ _ _).mono ?_; rintro e w1 ⟨rfl, rfl⟩))
        refine bodyPost_ret (v := .tuple #[.agg #[.int .i64 4, .int .i64 0, .string (s.extract 0 2), .int .i64 0], .int .i64 0]) (by simp [results, Tryz.results13, go_sem, *]) rfl ?_
        exact tpost_ok HT.out rfl rfl (extract_take _ _) ((Ext.refl w).alloc _)
      | false =>
        have hno := sym_no (by rw [← hl]; exact h1) (by rw [← hl]; exact h2) (by rw [← hl]; exact h3)
        by_cases hm : s[0] ∈ symL
        · have HT := Lib.hid (show symT s.data.toList = .ok 4 1 0 by rw [hl]; exact sym_one hno hm)
          obtain ⟨v, hv⟩ : ∃ v, v = Lib.indexByte [123, 125, 40, 41, 59, 44, 43, 45, 42, 60, 61, 62] s[0] := ⟨_, rfl⟩
          have hv0 : 0 ≤ v := by rw [hv]; exact (index_mem _ _).2 hm
          have HI := Lib.hid (idx_any s h0 v hv)
          clear hl hno hm hv
          go_enter Tryz.func13, Tryz.ntmps13
          go_wp2_with (first | (go_at_call 34; refine (Tryz.strings_HasPrefix _ _ _).mono ?_; rintro e w1 ⟨rfl, rfl⟩) | (go_at_call 35; refine (HI.out _).mono ?_; rintro e w1 ⟨rfl, rfl⟩))
          refine bodyPost_ret (v := .tuple #[.agg #[.int .i64 4, .int .i64 0, .string (s.extract 0 1), .int .i64 0], .int .i64 0]) (by simp [results, Tryz.results13, go_sem, *]) rfl ?_
          exact tpost_ok HT.out rfl rfl (extract_take _ _) ((Ext.refl w).alloc _)
        · have HT := Lib.hid (show symT s.data.toList = .err 20 by rw [hl]; exact sym_none hno hm)
          obtain ⟨v, hv⟩ : ∃ v, v = Lib.indexByte [123, 125, 40, 41, 59, 44, 43, 45, 42, 60, 61, 62] s[0] := ⟨_, rfl⟩
          have hv0 : ¬ 0 ≤ v := by rw [hv]; exact fun h => hm ((index_mem _ _).1 h)
          have HI := Lib.hid (idx_any s h0 v hv)
          clear hl hno hm hv
          go_enter Tryz.func13, Tryz.ntmps13
          go_wp2_with (first | (go_at_call 34; refine (Tryz.strings_HasPrefix _ _ _).mono ?_; rintro e w1 ⟨rfl, rfl⟩) | (go_at_call 35; refine (HI.out _).mono ?_; rintro e w1 ⟨rfl, rfl⟩))
          refine bodyPost_ret (v := .tuple #[.agg #[.int .i64 0, .int .i64 0, .string ⟨#[]⟩, .int .i64 0], .int .i64 20]) (by simp [results, Tryz.results13, go_sem, *]) rfl ?_
          exact tpost_err HT.out rfl ((Ext.refl w).alloc _)
end Go.Proofs.YtngjghblpbdciaaGreatDoor

/- The contract of 'number'. -/
namespace Go.Proofs.YtngjghblpbdciaaGreatDoor
open Go Go.RowKit

theorem dval_ge (l : List UInt8) : ∀ a, a ≤ dval a l := by
  induction l with
  | nil => intro a; exact Nat.le_refl _
  | cons c r ih => intro a; rw [dval_cons]; have := ih (10 * a + (c.toNat - 48)); omega
theorem parse_digits (l : List UInt8) : ∀ a, a < 18446744073709551616 → l.all dig = true →
    (dval a l < 18446744073709551616 → Lib.parseUint10 a l = .ok (dval a l)) ∧ (18446744073709551616 ≤ dval a l → Lib.parseUint10 a l = .range) := by
  induction l with
  | nil => intro a ha _; exact ⟨fun _ => rfl, fun h => by rw [dval_nil] at h; omega⟩
  | cons c r ih =>
    intro a ha hd
    rw [List.all_cons, Bool.and_eq_true] at hd
    have hc := dig_iff.1 hd.1
    have hg := dval_ge r (10 * a + (c.toNat - 48))
    rw [dval_cons, Lib.parseUint10, if_pos hc, show a * 10 = 10 * a by omega]
    constructor
    · intro h
      rw [if_neg (by omega), if_neg (by omega)]
      exact (ih _ (by omega) hd.2).1 h
    · intro h
      by_cases h1 : 1844674407370955162 ≤ a
      · rw [if_pos h1]
      · rw [if_neg h1]
        by_cases h2 : 18446744073709551616 ≤ 10 * a + (c.toNat - 48)
        · rw [if_pos h2]
        · rw [if_neg h2]; exact (ih _ (by omega) hd.2).2 h
theorem atoi_digits {l : List UInt8} (h0 : l ≠ []) (hd : l.all dig = true) :
    (dval 0 l < 9223372036854775808 → Lib.atoiAll l = .ok (dval 0 l : Nat)) ∧ (9223372036854775808 ≤ dval 0 l → Lib.atoiAll l = .range) := by
  cases l with
  | nil => exact absurd rfl h0
  | cons c r =>
    have hc : 48 ≤ c.toNat ∧ c.toNat ≤ 57 := by rw [List.all_cons, Bool.and_eq_true] at hd; exact dig_iff.1 hd.1
    have hp := parse_digits (c :: r) 0 (by omega) hd
    have e : Lib.parseMag (if c.toNat = 43 ∨ c.toNat = 45 then r else c :: r) = Lib.parseUint10 0 (c :: r) := by
      rw [if_neg (by omega), Lib.parseMag, if_neg (by simp)]
    constructor
    · intro h
      unfold Lib.atoiAll
      simp only [e, hp.1 (by omega)]
      rw [if_neg (by omega), if_neg (by omega), if_neg (by omega)]
    · intro h
      unfold Lib.atoiAll
      by_cases h2 : dval 0 (c :: r) < 18446744073709551616
      · simp only [e, hp.1 h2]
        rw [if_pos ⟨by omega, h⟩]
      · simp only [e, hp.2 (by omega)]
theorem take_twn (p : UInt8 → Bool) (l : List UInt8) : l.take (twn p l) = l.takeWhile p := by
  induction l with
  | nil => rfl
  | cons c r ih =>
    cases h : p c with
    | true => rw [twn_go h, List.takeWhile_cons, h, Nat.add_comm, List.take_succ_cons, ih]; rfl
    | false => rw [twn_stop h, List.takeWhile_cons, h]; rfl
theorem tw_all (p : UInt8 → Bool) (l : List UInt8) : (l.takeWhile p).all p = true := by
  induction l with
  | nil => rfl
  | cons c r ih =>
    cases h : p c with
    | true => rw [List.takeWhile_cons, h]; simp [h, ih]
    | false => rw [List.takeWhile_cons, h]; rfl
/-- The listed variable that number parsing may hand back, in every later world. -/
def EnvR (w : World) : Prop := ∃ tp p, ∀ W, Ext w W → W.var? Tryz.prog "strconv.ErrRange" = some #[.iface tp p]
theorem EnvR.ext {w w' : World} (h : EnvR w) (hx : Ext w w') : EnvR w' := h.imp fun _ h => h.imp fun _ h W hW => h W (hx.trans hW)
theorem atoi_ok_any (s : ByteArray) (v : Int) (X : World) (hs : s.size ≤ 281474976710656) (h : Lib.atoiAll s.data.toList = .ok v) :
    Calls Tryz.prog 38 #[.string s] X fun e X' => e = .returned (.tuple #[.int .i64 v, .nilIface]) ∧ Ext X X' := by
  refine (Tryz.strconv_Atoi_ok s (by omega) v h X).mono ?_
  rintro e X' ⟨rfl, h1 | ⟨t, h1⟩⟩
  · subst h1; exact ⟨rfl, Ext.refl _⟩
  · subst h1; exact ⟨rfl, Lib.bytesWorld_below X 5 t⟩
theorem atoi_bad_any (s : ByteArray) (X : World) (hs : s.size ≤ 281474976710656) (hE : EnvR X) (h : Lib.atoiAll s.data.toList = .range) :
    Calls Tryz.prog 38 #[.string s] X fun e X' => ∃ (v : Int) (N : Nat), e = .returned (.tuple #[.int .i64 v, .iface 114 (.pointer (some ⟨N, 0, none⟩))]) ∧ Ext X X' := by
  obtain ⟨tp, p, hv⟩ := hE
  refine (Tryz.strconv_Atoi_range_var s hs h tp p X (hv X (Ext.refl _))).mono ?_
  rintro e X' ⟨N, rfl, _, _, hb⟩
  exact ⟨_, N, rfl, hb⟩
theorem extract_get (s : ByteArray) (n : Nat) (h : 0 < (s.extract 0 n).size) : (s.extract 0 n)[0]'h = s[0]'(by rw [ByteArray.size_extract] at h; omega) := by
  simp [ByteArray.getElem_extract]
set_option maxHeartbeats 4000000 in
set_option maxRecDepth 100000 in
theorem num_any (s : ByteArray) (w : World) (hs : s.size ≤ 281474976710656) (h0 : 0 < s.size) (hd : dig s[0] = true) (hE : EnvR w) : Calls Tryz.prog 20 #[.string s] w (TPost (numT s.data.toList) s w) := by
  have hl := get_list s 0 h0
  rw [List.drop_zero] at hl
  have HF := Lib.hid (fun X => first32_any s X hs)
  have hz := twn_size dig s
  have hz1 : 1 ≤ twn dig s.data.toList := by rw [hl, twn_go hd]; omega
  have htk := take_twn dig s.data.toList
  have hall := tw_all dig s.data.toList
  obtain ⟨n, hn⟩ : ∃ n, n = twn dig s.data.toList := ⟨_, rfl⟩
  rw [← hn] at HF hz hz1 htk
  have HN := Lib.hid hn
  have HL := Lib.hid hl
  have HTK := Lib.hid htk
  have HAL := Lib.hid hall
  clear hn hl htk hall hd
  by_cases hA : 1 < n ∧ s[0] = 48
  · obtain ⟨h1, h2⟩ := hA
    have h1' : (1 : Int) < (n : Int) := by omega
    have HT := Lib.hid (show numT s.data.toList = .err 20 by rw [numT, ← HN.out, if_pos ⟨h1, by rw [HL.out, h2]; rfl⟩])
    have hq : ∀ h : 0 < (s.extract 0 n).size, ((((s.extract 0 n)[0]'h).toNat : Int) == 48) = true := fun h => by rw [extract_get, h2]; rfl
    clear HN HL HTK HAL h2
    go_enter Tryz.func20, Tryz.ntmps20
    go_wp2_with (first | (go_at_call 15; refine (HF.out _).mono ?_; rintro e w1 ⟨rfl, hx⟩; have q := (TBox.new w 0 0 0 ⟨#[]⟩ 35).ext hx; have hx0 := ((Ext.refl w).alloc _).trans hx; obtain ⟨q0, q1, q2, q3, q4, q5, q6, q7, q8⟩ := q))
    refine bodyPost_ret (v := .tuple #[.agg #[.int .i64 0, .int .i64 0, .string ⟨#[]⟩, .int .i64 0], .int .i64 20]) (by simp [results, Tryz.results20, go_sem, *]) rfl ?_
    exact tpost_err HT.out rfl (hx0.store4 (Nat.le_refl _) _ _ _ _)
  · by_cases h1 : 1 < n
    · have h1' : (1 : Int) < (n : Int) := by omega
      have h48 : s[0] ≠ 48 := fun e => hA ⟨h1, e⟩
      have hq : ∀ h : 0 < (s.extract 0 n).size, ((((s.extract 0 n)[0]'h).toNat : Int) == 48) = false := fun h => by
        rw [extract_get, beq_eq_false_iff_ne]; intro e; exact h48 (UInt8.toNat_inj.1 (by have : (48 : UInt8).toNat = 48 := rfl; omega))
      clear h48
      have hne : s.data.toList.takeWhile dig ≠ [] := by rw [← HTK.out, HL.out]; cases n with | zero => omega | succ n => simp
      have hat := atoi_digits hne HAL.out
      have het : (s.extract 0 n).data.toList = s.data.toList.takeWhile dig := by rw [extract_take, HTK.out]
      have hsz : (s.extract 0 n).size ≤ 281474976710656 := by rw [ByteArray.size_extract]; omega
      obtain ⟨v, hv⟩ : ∃ v, v = dval 0 (s.data.toList.takeWhile dig) := ⟨_, rfl⟩
      rw [← hv] at hat
      have hT0 : numT s.data.toList = if 2147483647 < v then .err 5 else .ok 2 n v := by
        rw [numT, ← HN.out, if_neg (by rw [HL.out, List.head?_cons]; simpa using hA), hv]
      have HT0 := Lib.hid hT0
      by_cases hb : v < 9223372036854775808
      · have HI := Lib.hid (fun X (_ : Ext w X) => atoi_ok_any (s.extract 0 n) v X hsz (by rw [het]; exact hat.1 hb))
        by_cases hm : 2147483647 < v
        · have hm' : (2147483647 : Int) < (v : Int) := by omega
          have HT := Lib.hid (show numT s.data.toList = .err 5 by rw [HT0.out, if_pos hm])
          clear hT0 HT0 het hat hne hv HN HL HTK HAL hA
          go_enter Tryz.func20, Tryz.ntmps20
          go_wp2_with (first | (go_at_call 15; refine (HF.out _).mono ?_; rintro e w1 ⟨rfl, hx⟩; have q := (TBox.new w 0 0 0 ⟨#[]⟩ 35).ext hx; have hx0 := ((Ext.refl w).alloc _).trans hx; obtain ⟨q0, q1, q2, q3, q4, q5, q6, q7, q8⟩ := q) | (go_at_call 38; refine (HI.out _ (((Ext.refl w).alloc _).trans hx)).mono ?_; rintro e w2 ⟨rfl, hx2⟩; have q' := ((TBox.new w 0 0 0 ⟨#[]⟩ 35).ext hx).ext hx2; have hx3 := (((Ext.refl w).alloc _).trans hx).trans hx2; obtain ⟨r0, r1, r2, r3, r4, r5, r6, r7, r8⟩ := q'))
          refine bodyPost_ret (v := .tuple #[.agg #[.int .i64 0, .int .i64 0, .string ⟨#[]⟩, .int .i64 0], .int .i64 5]) (by simp [results, Tryz.results20, go_sem, *]) rfl ?_
          exact tpost_err HT.out rfl (hx3.store4 (Nat.le_refl _) _ _ _ _)
        · have hm' : ¬ (2147483647 : Int) < (v : Int) := by omega
          have HT := Lib.hid (show numT s.data.toList = .ok 2 n v by rw [HT0.out, if_neg hm])
          clear hT0 HT0 het hat hne hv HN HL HTK HAL hA
          go_enter Tryz.func20, Tryz.ntmps20
          go_wp2_with (first | (go_at_call 15; refine (HF.out _).mono ?_; rintro e w1 ⟨rfl, hx⟩; have q := (TBox.new w 0 0 0 ⟨#[]⟩ 35).ext hx; have hx0 := ((Ext.refl w).alloc _).trans hx; obtain ⟨q0, q1, q2, q3, q4, q5, q6, q7, q8⟩ := q) | (go_at_call 38; refine (HI.out _ (((Ext.refl w).alloc _).trans hx)).mono ?_; rintro e w2 ⟨rfl, hx2⟩; have q' := ((TBox.new w 0 0 0 ⟨#[]⟩ 35).ext hx).ext hx2; have hx3 := (((Ext.refl w).alloc _).trans hx).trans hx2; obtain ⟨r0, r1, r2, r3, r4, r5, r6, r7, r8⟩ := q'))
          refine bodyPost_ret (v := .tuple #[.agg #[.int .i64 2, .int .i64 0, .string (s.extract 0 n), .int .i64 v], .int .i64 0]) (by simp [results, Tryz.results20, go_sem, *]) rfl ?_
          exact tpost_ok HT.out rfl rfl (extract_take _ _) (hx3.store4 (Nat.le_refl _) _ _ _ _)
      · have HI := Lib.hid (fun X (hX : Ext w X) => atoi_bad_any (s.extract 0 n) X hsz (hE.ext hX) (by rw [het]; exact hat.2 (by omega)))
        have HT := Lib.hid (show numT s.data.toList = .err 5 by rw [HT0.out, if_pos (by omega)])
        clear hT0 HT0 het hat hne hv HN HL HTK HAL hA hb
        go_enter Tryz.func20, Tryz.ntmps20
        go_wp2_with (first | (go_at_call 15; refine (HF.out _).mono ?_; rintro e w1 ⟨rfl, hx⟩; have q := (TBox.new w 0 0 0 ⟨#[]⟩ 35).ext hx; have hx0 := ((Ext.refl w).alloc _).trans hx; obtain ⟨q0, q1, q2, q3, q4, q5, q6, q7, q8⟩ := q) | (go_at_call 38; refine (HI.out _ (((Ext.refl w).alloc _).trans hx)).mono ?_; rintro e w2 ⟨v2, N, rfl, hx2⟩; have q' := ((TBox.new w 0 0 0 ⟨#[]⟩ 35).ext hx).ext hx2; have hx3 := (((Ext.refl w).alloc _).trans hx).trans hx2; obtain ⟨r0, r1, r2, r3, r4, r5, r6, r7, r8⟩ := q'))
        refine bodyPost_ret (v := .tuple #[.agg #[.int .i64 0, .int .i64 0, .string ⟨#[]⟩, .int .i64 0], .int .i64 5]) (by simp [results, Tryz.results20, go_sem, *]) rfl ?_
        exact tpost_err HT.out rfl (hx3.store4 (Nat.le_refl _) _ _ _ _)
    · obtain rfl : n = 1 := by omega
      have h1' : ¬ (1 : Int) < ((1 : Nat) : Int) := by decide
      have hne : s.data.toList.takeWhile dig ≠ [] := by rw [← HTK.out, HL.out]; simp
      have hat := atoi_digits hne HAL.out
      have het : (s.extract 0 1).data.toList = s.data.toList.takeWhile dig := by rw [extract_take, HTK.out]
      have hsz : (s.extract 0 1).size ≤ 281474976710656 := by rw [ByteArray.size_extract]; omega
      obtain ⟨v, hv⟩ : ∃ v, v = dval 0 (s.data.toList.takeWhile dig) := ⟨_, rfl⟩
      rw [← hv] at hat
      have hT0 : numT s.data.toList = if 2147483647 < v then .err 5 else .ok 2 1 v := by
        rw [numT, ← HN.out, if_neg (by rw [HL.out, List.head?_cons]; simp), hv]
      have HT0 := Lib.hid hT0
      by_cases hb : v < 9223372036854775808
      · have HI := Lib.hid (fun X (_ : Ext w X) => atoi_ok_any (s.extract 0 1) v X hsz (by rw [het]; exact hat.1 hb))
        by_cases hm : 2147483647 < v
        · have hm' : (2147483647 : Int) < (v : Int) := by omega
          have HT := Lib.hid (show numT s.data.toList = .err 5 by rw [HT0.out, if_pos hm])
          clear hT0 HT0 het hat hne hv HN HL HTK HAL hA
          go_enter Tryz.func20, Tryz.ntmps20
          go_wp2_with (first | (go_at_call 15; refine (HF.out _).mono ?_; rintro e w1 ⟨rfl, hx⟩; have q := (TBox.new w 0 0 0 ⟨#[]⟩ 35).ext hx; have hx0 := ((Ext.refl w).alloc _).trans hx; obtain ⟨q0, q1, q2, q3, q4, q5, q6, q7, q8⟩ := q) | (go_at_call 38; refine (HI.out _ (((Ext.refl w).alloc _).trans hx)).mono ?_; rintro e w2 ⟨rfl, hx2⟩; have q' := ((TBox.new w 0 0 0 ⟨#[]⟩ 35).ext hx).ext hx2; have hx3 := (((Ext.refl w).alloc _).trans hx).trans hx2; obtain ⟨r0, r1, r2, r3, r4, r5, r6, r7, r8⟩ := q'))
          refine bodyPost_ret (v := .tuple #[.agg #[.int .i64 0, .int .i64 0, .string ⟨#[]⟩, .int .i64 0], .int .i64 5]) (by simp [results, Tryz.results20, go_sem, *]) rfl ?_
          exact tpost_err HT.out rfl (hx3.store4 (Nat.le_refl _) _ _ _ _)
        · have hm' : ¬ (2147483647 : Int) < (v : Int) := by omega
          have HT := Lib.hid (show numT s.data.toList = .ok 2 1 v by rw [HT0.out, if_neg hm])
          clear hT0 HT0 het hat hne hv HN HL HTK HAL hA
          go_enter Tryz.func20, Tryz.ntmps20
          go_wp2_with (first | (go_at_call 15; refine (HF.out _).mono ?_; rintro e w1 ⟨rfl, hx⟩; have q := (TBox.new w 0 0 0 ⟨#[]⟩ 35).ext hx; have hx0 := ((Ext.refl w).alloc _).trans hx; obtain ⟨q0, q1, q2, q3, q4, q5, q6, q7, q8⟩ := q) | (go_at_call 38; refine (HI.out _ (((Ext.refl w).alloc _).trans hx)).mono ?_; rintro e w2 ⟨rfl, hx2⟩; have q' := ((TBox.new w 0 0 0 ⟨#[]⟩ 35).ext hx).ext hx2; have hx3 := (((Ext.refl w).alloc _).trans hx).trans hx2; obtain ⟨r0, r1, r2, r3, r4, r5, r6, r7, r8⟩ := q'))
          refine bodyPost_ret (v := .tuple #[.agg #[.int .i64 2, .int .i64 0, .string (s.extract 0 1), .int .i64 v], .int .i64 0]) (by simp [results, Tryz.results20, go_sem, *]) rfl ?_
          exact tpost_ok HT.out rfl rfl (extract_take _ _) (hx3.store4 (Nat.le_refl _) _ _ _ _)
      · have HI := Lib.hid (fun X (hX : Ext w X) => atoi_bad_any (s.extract 0 1) X hsz (hE.ext hX) (by rw [het]; exact hat.2 (by omega)))
        have HT := Lib.hid (show numT s.data.toList = .err 5 by rw [HT0.out, if_pos (by omega)])
        clear hT0 HT0 het hat hne hv HN HL HTK HAL hA hb
        go_enter Tryz.func20, Tryz.ntmps20
        go_wp2_with (first | (go_at_call 15; refine (HF.out _).mono ?_; rintro e w1 ⟨rfl, hx⟩; have q := (TBox.new w 0 0 0 ⟨#[]⟩ 35).ext hx; have hx0 := ((Ext.refl w).alloc _).trans hx; obtain ⟨q0, q1, q2, q3, q4, q5, q6, q7, q8⟩ := q) | (go_at_call 38; refine (HI.out _ (((Ext.refl w).alloc _).trans hx)).mono ?_; rintro e w2 ⟨v2, N, rfl, hx2⟩; have q' := ((TBox.new w 0 0 0 ⟨#[]⟩ 35).ext hx).ext hx2; have hx3 := (((Ext.refl w).alloc _).trans hx).trans hx2; obtain ⟨r0, r1, r2, r3, r4, r5, r6, r7, r8⟩ := q'))
        refine bodyPost_ret (v := .tuple #[.agg #[.int .i64 0, .int .i64 0, .string ⟨#[]⟩, .int .i64 0], .int .i64 5]) (by simp [results, Tryz.results20, go_sem, *]) rfl ?_
        exact tpost_err HT.out rfl (hx3.store4 (Nat.le_refl _) _ _ _ _)
end Go.Proofs.YtngjghblpbdciaaGreatDoor

/- The contracts of package date's Leap, Length, Check, number, Day, on dates of small numbers. -/
namespace Go.Proofs.YtngjghblpbdciaaGreatDoor
open Go Go.RowKit

theorem leap_of {y : Nat} {b : Bool} (h : b = true ↔ (y % 4 = 0 ∧ (y % 100 ≠ 0 ∨ y % 400 = 0))) : b = leap y := by
  rw [Bool.eq_iff_iff, h, leap]
  simp only [Bool.and_eq_true, Bool.or_eq_true, Bool.not_eq_true', decide_eq_true_eq, decide_eq_false_iff_not, ne_eq]
set_option maxHeartbeats 4000000 in
set_option maxRecDepth 100000 in
theorem leap_any (y : Nat) (w : World) (hy : y ≤ 100000) : Calls Tryz.prog 112 #[.int .i64 y] w (BQ (leap y) w) := by
  go_enter Tryz.func112, Tryz.ntmps112
  go_wp2
  all_goals go_ret
  all_goals refine ⟨ret_bool (leap_of ?_), rfl⟩
  all_goals simp
  all_goals omega
/-- The lengths of the months, in every later world. -/
def EnvL (w : World) : Prop := ∀ W, Ext w W → W.var? Tryz.prog "rollbook/date.lengths" = some (Array.map (fun i => Value.int .i64 i) #[0, 31, 28, 31, 30, 31, 30, 31, 31, 30, 31, 30, 31])
set_option maxHeartbeats 4000000 in
set_option maxRecDepth 100000 in
theorem length_any (y m : Nat) (w : World) (hy : y ≤ 100000) (hm : m ≤ 1000) (hL : EnvL w) : Calls Tryz.prog 100 #[.int .i64 y, .int .i64 m] w (fun e w' => e = .returned (.int .i64 (mlen y m)) ∧ w' = w) := by
  have HL := Lib.hid (fun X => leap_any y X hy)
  have hv := hL w (Ext.refl w)
  have hg : Tryz.prog.globalNamed "rollbook/date.lengths" = some 4 := by kernel_rfl
  have hcs := World.var?_cell hg hv
  by_cases h2 : m = 2
  · subst h2
    cases hl : leap y with
    | true =>
      have HE := Lib.hid (show mlen y 2 = 29 by simp [mlen, hl])
      rw [hl] at HL
      clear hl hcs hv
      go_enter Tryz.func100, Tryz.ntmps100
      go_wp2_with (first | (go_at_call 112; refine (HL.out _).mono ?_; rintro e w1 ⟨rfl, rfl⟩))
      go_ret
      exact ⟨ret_int (by rw [HE.out]; rfl), rfl⟩
    | false =>
      have HE := Lib.hid (show mlen y 2 = 28 by simp [mlen, hl])
      rw [hl] at HL
      have hc2 := hcs 2
      simp at hc2
      clear hl hcs hv
      go_enter Tryz.func100, Tryz.ntmps100
      go_wp2_with (first | (go_at_call 112; refine (HL.out _).mono ?_; rintro e w1 ⟨rfl, rfl⟩))
      go_ret
      exact ⟨ret_int (by rw [HE.out]; rfl), rfl⟩
  · have hc := hcs m
    clear hcs hv
    by_cases h1 : 1 ≤ m
    · by_cases h12 : m ≤ 12
      · obtain ⟨v, hc2, hE⟩ : ∃ v : Int, w.cell? ⟨4, m, none⟩ = some (.int .i64 v) ∧ v = (mlen y m : Nat) := by
          rcases (by omega : m = 1 ∨ m = 3 ∨ m = 4 ∨ m = 5 ∨ m = 6 ∨ m = 7 ∨ m = 8 ∨ m = 9 ∨ m = 10 ∨ m = 11 ∨ m = 12) with rfl | rfl | rfl | rfl | rfl | rfl | rfl | rfl | rfl | rfl | rfl <;> exact ⟨_, by rw [hc]; simp [mlen], rfl⟩
        have HE := Lib.hid hE
        have h2' : ((m : Int) == 2) = false := by rw [beq_eq_false_iff_ne]; omega
        have h1' : ¬ (m : Int) < 1 := by omega
        have h12' : ¬ (12 : Int) < (m : Int) := by omega
        have h13 : m < 13 := by omega
        clear hc hE h2
        go_enter Tryz.func100, Tryz.ntmps100
        go_wp2_with (first | (go_at_call 112; refine (HL.out _).mono ?_; rintro e w1 ⟨rfl, rfl⟩))
        go_ret
        exact ⟨ret_int HE.out, rfl⟩
      · have HE := Lib.hid (show mlen y m = 0 by rw [mlen, if_neg h2, if_neg (by omega), if_neg (by omega)])
        have h12' : (12 : Int) < (m : Int) := by omega
        have h1' : ¬ (m : Int) < 1 := by omega
        clear hc
        go_enter Tryz.func100, Tryz.ntmps100
        go_wp2_with (first | (go_at_call 112; refine (HL.out _).mono ?_; rintro e w1 ⟨rfl, rfl⟩))
        go_ret
        exact ⟨ret_int (by rw [HE.out]; rfl), rfl⟩
    · obtain rfl : m = 0 := by omega
      clear hc
      go_enter Tryz.func100, Tryz.ntmps100
      go_wp2_with (first | (go_at_call 112; refine (HL.out _).mono ?_; rintro e w1 ⟨rfl, rfl⟩))
      go_ret
      exact ⟨ret_int (by simp [mlen]), rfl⟩
theorem EnvL.ext {w w' : World} (h : EnvL w) (hx : Ext w w') : EnvL w' := fun W hW => h W (hx.trans hW)
def chkE (y m d : Nat) : Int := if dateB y m d then 0 else 5
theorem chk_no {y m d : Nat} (h : y < 1 ∨ 9999 < y ∨ m < 1 ∨ 12 < m ∨ d < 1 ∨ mlen y m < d) : chkE y m d = 5 := by
  rw [chkE, if_neg]
  simp only [dateB, Bool.and_eq_true, decide_eq_true_eq]
  omega
theorem chk_yes {y m d : Nat} (h1 : 1 ≤ y) (h2 : y ≤ 9999) (h3 : 1 ≤ m) (h4 : m ≤ 12) (h5 : 1 ≤ d) (h6 : d ≤ mlen y m) : chkE y m d = 0 := by
  rw [chkE, if_pos]
  simp only [dateB, Bool.and_eq_true, decide_eq_true_eq]
  omega
theorem mlen_le (y m : Nat) : mlen y m ≤ 31 := by
  rw [mlen]; repeat (first | omega | split)
set_option maxHeartbeats 4000000 in
set_option maxRecDepth 100000 in
theorem check_any (y m d : Nat) (w : World) (hy : y ≤ 100000) (hm : m ≤ 1000) (hd : d ≤ 1000) (hL : EnvL w) : Calls Tryz.prog 79 #[.agg #[.int .i64 y, .int .i64 m, .int .i64 d]] w (IntPost (chkE y m d) w) := by
  have HL := Lib.hid (fun X (hX : Ext w X) => length_any y m X hy hm (hL.ext hX))
  by_cases h1 : y < 1
  · have HE := Lib.hid (chk_no (y := y) (m := m) (d := d) (.inl h1))
    have g1 : decide ((y : Int) < 1) = true := decide_eq_true (by omega)
    go_enter Tryz.func79, Tryz.ntmps79
    go_wp2
    go_quiet (fail)
    go_wp2
    go_ret
    exact ⟨ret_int HE.out.symm, ((Ext.refl _).alloc _).drewN _⟩
  · have g1 : decide ((y : Int) < 1) = false := decide_eq_false (by omega)
    by_cases h2 : 9999 < y
    · have HE := Lib.hid (chk_no (y := y) (m := m) (d := d) (.inr (.inl h2)))
      have g2 : decide ((9999 : Int) < (y : Int)) = true := decide_eq_true (by omega)
      go_enter Tryz.func79, Tryz.ntmps79
      go_wp2
      go_quiet (fail)
      go_wp2
      go_ret
      exact ⟨ret_int HE.out.symm, ((Ext.refl _).alloc _).drewN _⟩
    · have g2 : decide ((9999 : Int) < (y : Int)) = false := decide_eq_false (by omega)
      by_cases h3 : m < 1
      · have HE := Lib.hid (chk_no (y := y) (m := m) (d := d) (.inr (.inr (.inl h3))))
        have g3 : decide ((m : Int) < 1) = true := decide_eq_true (by omega)
        go_enter Tryz.func79, Tryz.ntmps79
        go_wp2
        go_quiet (fail)
        go_wp2
        go_ret
        exact ⟨ret_int HE.out.symm, ((Ext.refl _).alloc _).drewN _⟩
      · have g3 : decide ((m : Int) < 1) = false := decide_eq_false (by omega)
        by_cases h4 : 12 < m
        · have HE := Lib.hid (chk_no (y := y) (m := m) (d := d) (.inr (.inr (.inr (.inl h4)))))
          have g4 : decide ((12 : Int) < (m : Int)) = true := decide_eq_true (by omega)
          go_enter Tryz.func79, Tryz.ntmps79
          go_wp2
          go_quiet (fail)
          go_wp2
          go_ret
          exact ⟨ret_int HE.out.symm, ((Ext.refl _).alloc _).drewN _⟩
        · have g4 : decide ((12 : Int) < (m : Int)) = false := decide_eq_false (by omega)
          by_cases h5 : d < 1
          · have HE := Lib.hid (chk_no (y := y) (m := m) (d := d) (.inr (.inr (.inr (.inr (.inl h5))))))
            have g5 : decide ((d : Int) < 1) = true := decide_eq_true (by omega)
            go_enter Tryz.func79, Tryz.ntmps79
            go_wp2
            go_quiet (fail)
            go_wp2
            go_ret
            exact ⟨ret_int HE.out.symm, ((Ext.refl _).alloc _).drewN _⟩
          · have g5 : decide ((d : Int) < 1) = false := decide_eq_false (by omega)
            by_cases h6 : mlen y m < d
            · have HE := Lib.hid (chk_no (y := y) (m := m) (d := d) (.inr (.inr (.inr (.inr (.inr (h6)))))))
              have g6 : decide (((mlen y m : Nat) : Int) < (d : Int)) = true := decide_eq_true (by omega)
              obtain ⟨L, hLn⟩ : ∃ L, L = mlen y m := ⟨_, rfl⟩
              rw [← hLn] at HL g6 h6
              clear hLn
              go_enter Tryz.func79, Tryz.ntmps79
              go_wp2
              go_quiet (first | (go_at_call 100; refine Calls.quiet_of_same ((HL.out _ (by repeat (first | exact Ext.refl _ | apply Ext.alloc | apply Ext.drewN | apply Ext.drew))).mono fun _ _ h => h)))
              go_wp2
              go_ret
              exact ⟨ret_int HE.out.symm, ((Ext.refl _).alloc _).drewN _⟩
            · have HE := Lib.hid (chk_yes (y := y) (m := m) (d := d) (by omega) (by omega) (by omega) (by omega) (by omega) (by omega))
              have g6 : decide (((mlen y m : Nat) : Int) < (d : Int)) = false := decide_eq_false (by omega)
              obtain ⟨L, hLn⟩ : ∃ L, L = mlen y m := ⟨_, rfl⟩
              rw [← hLn] at HL g6 h6
              clear hLn
              go_enter Tryz.func79, Tryz.ntmps79
              go_wp2
              go_quiet (first | (go_at_call 100; refine Calls.quiet_of_same ((HL.out _ (by repeat (first | exact Ext.refl _ | apply Ext.alloc | apply Ext.drewN | apply Ext.drew))).mono fun _ _ h => h)))
              go_wp2
              go_ret
              exact ⟨ret_int HE.out.symm, ((Ext.refl _).alloc _).drewN _⟩
end Go.Proofs.YtngjghblpbdciaaGreatDoor

/- The contracts of date.number and date.Day. -/
namespace Go.Proofs.YtngjghblpbdciaaGreatDoor
open Go Go.RowKit

/-- The code's own formula; the year begins in March. -/
def marN (y m d : Nat) : Int := 365 * (y : Int) + y / 4 - y / 100 + y / 400 + (153 * m + 2) / 5 + d - 307
set_option maxHeartbeats 4000000 in
set_option maxRecDepth 100000 in
theorem number_any (y m d : Nat) (w : World) (hy : 1 ≤ y) (hy2 : y ≤ 9999) (hm1 : 1 ≤ m) (hm : m ≤ 12) (hd : d ≤ 31) :
    Calls Tryz.prog 80 #[.agg #[.int .i64 y, .int .i64 m, .int .i64 d]] w (fun e w' => e = .returned (.int .i64 (if m < 3 then marN (y - 1) (m + 9) d else marN y (m - 3) d)) ∧ Ext w w') := by
  by_cases h3 : m < 3
  · have h3' : (m : Int) - 3 < 0 := by omega
    rw [if_pos h3]
    obtain ⟨y, rfl⟩ : ∃ k, y = k + 1 := ⟨y - 1, by omega⟩
    go_enter Tryz.func80, Tryz.ntmps80
    go_wp2
    go_quiet (fail)
    go_wp2
    go_ret
    exact ⟨ret_int (by rw [marN]; omega), ((Ext.refl _).alloc _).drewN _⟩
  · have h3' : ¬ (m : Int) - 3 < 0 := by omega
    rw [if_neg h3]
    go_enter Tryz.func80, Tryz.ntmps80
    go_wp2
    go_quiet (fail)
    go_wp2
    go_ret
    exact ⟨ret_int (by rw [marN]; omega), ((Ext.refl _).alloc _).drewN _⟩
theorem leap_true {y : Nat} (h : leap y = true) : y % 4 = 0 ∧ (y % 100 ≠ 0 ∨ y % 400 = 0) := by
  simpa only [leap, Bool.and_eq_true, Bool.or_eq_true, Bool.not_eq_true', decide_eq_true_eq, decide_eq_false_iff_not, ne_eq] using h
theorem leap_false {y : Nat} (h : leap y = false) : ¬ (y % 4 = 0 ∧ (y % 100 ≠ 0 ∨ y % 400 = 0)) := by
  intro h2
  have : leap y = true := by
    simpa only [leap, Bool.and_eq_true, Bool.or_eq_true, Bool.not_eq_true', decide_eq_true_eq, decide_eq_false_iff_not, ne_eq] using h2
  rw [h] at this; cases this
def cumN : Nat → Nat
  | 3 => 59 | 4 => 90 | 5 => 120 | 6 => 151 | 7 => 181 | 8 => 212 | 9 => 243 | 10 => 273 | 11 => 304 | 12 => 334 | _ => 0
theorem mdays_of (y m : Nat) (h1 : 3 ≤ m) (h2 : m ≤ 12) : mdays y m = cumN m + (if leap y then 1 else 0) := by
  rcases (by omega : m = 3 ∨ m = 4 ∨ m = 5 ∨ m = 6 ∨ m = 7 ∨ m = 8 ∨ m = 9 ∨ m = 10 ∨ m = 11 ∨ m = 12) with rfl | rfl | rfl | rfl | rfl | rfl | rfl | rfl | rfl | rfl <;>
    (cases hl : leap y <;> simp [mdays, mlen, hl, cumN])
theorem cum_mar (m : Nat) (h1 : 3 ≤ m) (h2 : m ≤ 12) : (153 * (m - 3) + 2) / 5 + 59 = cumN m := by
  rcases (by omega : m = 3 ∨ m = 4 ∨ m = 5 ∨ m = 6 ∨ m = 7 ∨ m = 8 ∨ m = 9 ∨ m = 10 ∨ m = 11 ∨ m = 12) with rfl | rfl | rfl | rfl | rfl | rfl | rfl | rfl | rfl | rfl <;> rfl
/-- The code's formula is the number of the day. -/
theorem dayNo_mar {y m d : Nat} (hy : 1 ≤ y) (hm1 : 1 ≤ m) (hm : m ≤ 12) (hd : 1 ≤ d) : (if m < 3 then marN (y - 1) (m + 9) d else marN y (m - 3) d) = (dayNo y m d : Nat) := by
  by_cases h3 : m < 3
  · rw [if_pos h3]
    rcases (by omega : m = 1 ∨ m = 2) with rfl | rfl
    · rw [marN, dayNo, show mdays y 1 = 0 from rfl]; omega
    · rw [marN, dayNo, show mdays y 2 = 31 by simp [mdays, mlen]]; omega
  · rw [if_neg h3, marN, dayNo, mdays_of y m (by omega) hm]
    have hc := cum_mar m (by omega) hm
    have hc2 : (153 * (m - 3) + 2) / 5 = cumN m - 59 ∧ 59 ≤ cumN m := by omega
    have hc3 : ((153 * ((m - 3 : Nat) : Int) + 2) / 5) = (cumN m : Int) - 59 := by omega
    rw [hc3]
    cases hl : leap y with
    | true => have := leap_true hl; simp only [if_true]; omega
    | false => have := leap_false hl; simp only [Bool.false_eq_true, if_false]; omega
end Go.Proofs.YtngjghblpbdciaaGreatDoor

/- The contracts of date.Day and of the closure of date.Parse. -/
namespace Go.Proofs.YtngjghblpbdciaaGreatDoor
open Go Go.RowKit

def DayPost (y m d : Nat) (w : World) (e : Ending) (w' : World) : Prop :=
  e = .returned (.tuple #[.int .i64 (if dateB y m d then dayNo y m d else 0 : Nat), .int .i64 (chkE y m d)]) ∧ Ext w w'
theorem date_iff {y m d : Nat} (h : dateB y m d = true) : 1 ≤ y ∧ y ≤ 9999 ∧ 1 ≤ m ∧ m ≤ 12 ∧ 1 ≤ d ∧ d ≤ 31 := by
  simp only [dateB, Bool.and_eq_true, decide_eq_true_eq] at h
  have := mlen_le y m
  omega
set_option maxHeartbeats 4000000 in
set_option maxRecDepth 100000 in
theorem day_any (y m d : Nat) (w : World) (hy : y ≤ 100000) (hm : m ≤ 1000) (hd : d ≤ 1000) (hL : EnvL w) : Calls Tryz.prog 62 #[.agg #[.int .i64 y, .int .i64 m, .int .i64 d]] w (DayPost y m d w) := by
  have HC := Lib.hid (fun X (hX : Ext w X) => check_any y m d X hy hm hd (hL.ext hX))
  cases hb : dateB y m d with
  | true =>
    have hi := date_iff hb
    have HN := Lib.hid (fun X => number_any y m d X hi.1 hi.2.1 hi.2.2.1 hi.2.2.2.1 hi.2.2.2.2.2)
    rw [dayNo_mar hi.1 hi.2.2.1 hi.2.2.2.1 hi.2.2.2.2.1] at HN
    have hce : chkE y m d = 0 := by rw [chkE, hb]; rfl
    have HE := Lib.hid hce
    have HB := Lib.hid hb
    rw [hce] at HC
    clear hi hb hce
    go_enter Tryz.func62, Tryz.ntmps62
    go_wp2_with (first | (go_at_call 79; refine (HC.out _ ((Ext.refl _).alloc _)).mono ?_; rintro e w1 ⟨rfl, hx⟩; have hc1 := hx.cells.1 w.heap.size; have hx0 := ((Ext.refl w).alloc _).trans hx) | (go_at_call 80; refine (HN.out _).mono ?_; rintro e w2 ⟨rfl, hx2⟩))
    refine bodyPost_ret (v := .tuple #[.int .i64 (dayNo y m d : Nat), .int .i64 0]) (by simp [results, Tryz.results62, go_sem, *]) rfl ?_
    exact ⟨by rw [HE.out, HB.out]; rfl, hx0.trans hx2⟩
  | false =>
    have hce : chkE y m d = 5 := by rw [chkE, hb]; rfl
    have HE := Lib.hid hce
    have HB := Lib.hid hb
    rw [hce] at HC
    clear hb hce
    go_enter Tryz.func62, Tryz.ntmps62
    go_wp2_with (first | (go_at_call 79; refine (HC.out _ ((Ext.refl _).alloc _)).mono ?_; rintro e w1 ⟨rfl, hx⟩; have hc1 := hx.cells.1 w.heap.size; have hx0 := ((Ext.refl w).alloc _).trans hx))
    refine bodyPost_ret (v := .tuple #[.int .i64 0, .int .i64 5]) (by simp [results, Tryz.results62, go_sem, *]) rfl ?_
    exact ⟨by rw [HE.out, HB.out]; rfl, hx0⟩
/-- The captured variables of date.Parse: the text, and the error. -/
structure PBox (W : World) (b c : Nat) (s : ByteArray) : Prop where
  text : W.cell? ⟨b, 0, none⟩ = some (.string s)
  err : W.cell? ⟨c, 0, none⟩ = some (.int .i64 0)
  lb : b < W.heap.size
  lc : c < W.heap.size
theorem PBox.ext {W W' : World} {b c : Nat} {s : ByteArray} (h : PBox W b c s) (hx : Ext W W') : PBox W' b c s := by
  obtain ⟨q, _⟩ := hx.cells
  exact ⟨by rw [q _ _ h.lb]; exact h.text, by rw [q _ _ h.lc]; exact h.err, Nat.lt_of_lt_of_le h.lb hx.lt, Nat.lt_of_lt_of_le h.lc hx.lt⟩
def PartRel (L : List UInt8) (n i : Value) : Prop := ∃ j, j ≤ L.length ∧ i = .int .i64 j ∧ n = .int .i64 (dval 0 (L.take j) : Nat)
def partM (k : Value) : Nat := match k with | .int _ z => 4 - z.toNat | _ => 0
theorem dval_take {L : List UInt8} {j : Nat} (h : j < L.length) : dval 0 (L.take (j + 1)) = 10 * dval 0 (L.take j) + ((L.getD j 0).toNat - 48) := by
  have e : L.take (j + 1) = L.take j ++ [L.getD j 0] := by rw [List.take_add_one]; simp [List.getD, h]
  rw [e, dval_snoc]
theorem dval_lt (L : List UInt8) : ∀ n, L.length ≤ n → L.all dig = true → dval 0 L < 10 ^ n := by
  intro n
  induction n generalizing L with
  | zero => intro h _; rw [List.length_eq_zero_iff.1 (Nat.le_zero.1 h)]; decide
  | succ n ih =>
    intro h hd
    rcases List.eq_nil_or_concat L with rfl | ⟨r, c, rfl⟩
    · rw [dval_nil]; exact Nat.pow_pos (by decide)
    · rw [List.concat_eq_append] at h hd ⊢
      rw [dval_snoc]
      rw [List.all_append, Bool.and_eq_true] at hd
      have h1 := ih r (by rw [List.length_append] at h; simp at h; omega) hd.1
      have hc : 48 ≤ c.toNat ∧ c.toNat ≤ 57 := by have := hd.2; simp at this; exact dig_iff.1 this
      rw [Nat.pow_succ]; omega
theorem extract_list (s : ByteArray) (x y : Nat) : (s.extract x y).data.toList = (s.data.toList.drop x).take (y - x) := by
  rw [ByteArray.data_extract, Array.toList_extract]
set_option maxHeartbeats 4000000 in
set_option maxRecDepth 100000 in
theorem part_any (W : World) (b c : Nat) (s : ByteArray) (x y : Nat) (hB : PBox W b c s) (hxy : x ≤ y) (hy : y ≤ s.size) (hyx : y - x ≤ 4) (hd : ((s.data.toList.drop x).take (y - x)).all dig = true) :
    Calls Tryz.prog 61 #[.int .i64 x, .int .i64 y, .pointer (some ⟨b, 0, none⟩), .pointer (some ⟨c, 0, none⟩)] W (IntPost (dval 0 ((s.data.toList.drop x).take (y - x)) : Nat) W) := by
  have c1 := hB.text
  have hcv := Lib.run_convert_string_bytes (P := Tryz.prog) W 9 80 5 (s.extract x y) (u := .string) Tryz.underlying9 Tryz.underlying80 Tryz.underlying5
  have hcl : ∀ j, j < (s.extract x y).size → (Lib.bytesWorld W 5 (s.extract x y)).cell? ⟨W.heap.size, j, none⟩ = some (.int .u8 (((s.data.toList.drop x).take (y - x)).getD j 0).toNat) := fun j hj => by
    rw [Lib.bytesWorld_cell _ _ _ _ hj, extract_list]
  have hx : Ext W (Lib.bytesWorld W 5 (s.extract x y)) := Lib.bytesWorld_below _ _ _
  obtain ⟨L, hL⟩ : ∃ L, L = (s.data.toList.drop x).take (y - x) := ⟨_, rfl⟩
  have hlen : L.length = y - x := by rw [hL, List.length_take, List.length_drop, list_size]; omega
  have hsz : (s.extract x y).size = L.length := by rw [← list_size, extract_list, ← hL]
  rw [← hL] at hd hcl ⊢
  clear hL
  obtain ⟨V, hV⟩ : ∃ V, V = Lib.bytesWorld W 5 (s.extract x y) := ⟨_, rfl⟩
  rw [← hV] at hcv hcl hx
  rw [hsz] at hcv hcl
  obtain ⟨C, hC⟩ : ∃ C, C = grownCap W L.length 0 5 := ⟨_, rfl⟩
  rw [← hC] at hcv
  clear hV hC hsz
  have HD := Lib.hid hd
  have HX := Lib.hid hx
  have HCL := Lib.hid hcl
  clear hcl hd hx
  have hl4 : L.length ≤ 4 := by omega
  clear hlen
  go_enter Tryz.func61, Tryz.ntmps61
  go_wp2
  go_loop [7, 16] (fun n i => PartRel L n i) (fun _ i => partM i)
  case atStart => exact ⟨0, by omega, rfl, rfl⟩
  case round =>
    obtain ⟨j, hj, rfl, rfl⟩ := hrel
    by_cases hjl : j < L.length
    · have hcell := HCL.out j hjl
      have hdg := HD.out
      have hst := dval_take hjl
      have hk : 48 ≤ (L.getD j 0).toNat ∧ (L.getD j 0).toNat ≤ 57 := by
        have hm : L.getD j 0 ∈ L := by simp [List.getD, hjl]
        exact dig_iff.1 (List.all_eq_true.1 hdg _ hm)
      have hdv : dval 0 (L.take j) < 10 ^ 4 := dval_lt _ 4 (by rw [List.length_take]; omega) (by
        rw [List.all_eq_true] at hdg ⊢; exact fun a ha => hdg a (List.mem_of_mem_take ha))
      obtain ⟨k, hkk⟩ : ∃ k, k = (L.getD j 0).toNat := ⟨_, rfl⟩
      obtain ⟨u, huu⟩ : ∃ u, u = dval 0 (L.take j) := ⟨_, rfl⟩
      rw [← hkk] at hcell hk hst
      rw [← huu] at hdv hst ⊢
      have hu4 : u < 10000 := hdv
      have hk1 : ¬ (k : Int) < 48 := by omega
      have hk2 : ¬ (57 : Int) < (k : Int) := by omega
      have HST := Lib.hid hst
      clear hst hdv hdg hkk huu
      go_wp2
      exact ⟨⟨j + 1, by omega, rfl, by rw [HST.out]; congr 1; omega⟩, by simp [partM]; omega⟩
    · obtain rfl : j = L.length := by omega
      go_wp2
      go_ret
      exact ⟨ret_int rfl, HX.out⟩
end Go.Proofs.YtngjghblpbdciaaGreatDoor

/- The contract of date.Parse, at texts of ten bytes that are digits and two dashes. -/
namespace Go.Proofs.YtngjghblpbdciaaGreatDoor
open Go Go.RowKit

/-- Ten bytes of which the fifth and the eighth are dashes, the others digits. -/
structure Ten (s : ByteArray) : Prop where
  size : s.size = 10
  d4 : ((s.data.toList.drop 0).take (4 - 0)).all dig = true
  d5 : ((s.data.toList.drop 5).take (7 - 5)).all dig = true
  d8 : ((s.data.toList.drop 8).take (10 - 8)).all dig = true
  m4 : s.data.toList[4]? = some 45
  m7 : s.data.toList[7]? = some 45
def yOf (s : ByteArray) : Nat := dval 0 ((s.data.toList.drop 0).take (4 - 0))
def mOf (s : ByteArray) : Nat := dval 0 ((s.data.toList.drop 5).take (7 - 5))
def dOf (s : ByteArray) : Nat := dval 0 ((s.data.toList.drop 8).take (10 - 8))
theorem ten_get (s : ByteArray) (i : Nat) (h : s.data.toList[i]? = some 45) (hi : i < s.size) : ((s[i]'hi).toNat : Int) = 45 := by
  have h' : i < s.data.toList.length := by rw [list_size]; exact hi
  rw [List.getElem?_eq_getElem h'] at h
  injection h with h
  have : s[i]'hi = 45 := h
  rw [this]; rfl
set_option maxHeartbeats 4000000 in
set_option maxRecDepth 100000 in
theorem parse_any (s : ByteArray) (w : World) (hT : Ten s) (hL : EnvL w) : Calls Tryz.prog 39 #[.string s] w (DayPost (yOf s) (mOf s) (dOf s) w) := by
  have hs := hT.size
  have hq4 : ∀ h : 4 < s.size, (((s[4]'h).toNat : Int) != 45) = false := fun h => by rw [ten_get s 4 hT.m4 h]; decide
  have hq7 : ∀ h : 7 < s.size, (((s[7]'h).toNat : Int) != 45) = false := fun h => by rw [ten_get s 7 hT.m7 h]; decide
  have hmf : ∀ (fn : Fn) (first cap : Array Value) (w : World), (Instr.makeFunc fn first cap).run Tryz.prog w = .ok (.func fn first cap) w := fun _ _ _ _ => rfl
  have hy : yOf s < 10000 := dval_lt _ 4 (by rw [List.length_take]; omega) hT.d4
  have hm : mOf s < 100 := dval_lt _ 2 (by rw [List.length_take]; omega) hT.d5
  have hd : dOf s < 100 := dval_lt _ 2 (by rw [List.length_take]; omega) hT.d8
  have H0 := Lib.hid (fun W (hB : PBox W w.heap.size (w.heap.size + 1) s) => part_any W w.heap.size (w.heap.size + 1) s 0 4 hB (by omega) (by omega) (by omega) hT.d4)
  have H5 := Lib.hid (fun W (hB : PBox W w.heap.size (w.heap.size + 1) s) => part_any W w.heap.size (w.heap.size + 1) s 5 7 hB (by omega) (by omega) (by omega) hT.d5)
  have H8 := Lib.hid (fun W (hB : PBox W w.heap.size (w.heap.size + 1) s) => part_any W w.heap.size (w.heap.size + 1) s 8 10 hB (by omega) (by omega) (by omega) hT.d8)
  have HD := Lib.hid (fun X (hX : Ext w X) => day_any (yOf s) (mOf s) (dOf s) X (by omega) (by omega) (by omega) (hL.ext hX))
  have hB0 : PBox ((w.alloc (.cells #[.string s] 9)).alloc (.cells #[.int .i64 0] 28)) w.heap.size (w.heap.size + 1) s := ⟨by go_simp, by go_simp, by simp; omega, by simp⟩
  have hx0 : Ext w ((w.alloc (.cells #[.string s] 9)).alloc (.cells #[.int .i64 0] 28)) := (((Ext.refl w).alloc _).alloc _)
  have HB0 := Lib.hid hB0
  have HX0 := Lib.hid hx0
  clear hB0 hx0 hT hL
  rw [show dval 0 ((s.data.toList.drop 0).take (4 - 0)) = yOf s from rfl] at H0
  rw [show dval 0 ((s.data.toList.drop 5).take (7 - 5)) = mOf s from rfl] at H5
  rw [show dval 0 ((s.data.toList.drop 8).take (10 - 8)) = dOf s from rfl] at H8
  generalize yOf s = y at *
  generalize mOf s = m at *
  generalize dOf s = d at *
  unfold DayPost at HD ⊢
  generalize ((if dateB y m d then dayNo y m d else 0 : Nat) : Int) = N at *
  generalize chkE y m d = E at *
  go_enter Tryz.func39, Tryz.ntmps39
  go_wp2_with (first | (go_at_call 61; (have hg := hB2; clear hg); refine (H8.out _ hB2).mono ?_; rintro e w3 ⟨rfl, hx3⟩; have hB3 := hB2.ext hx3; have c4 := fun o => (hB3.ext ((Ext.refl _).alloc o)).err; have hxx3 := hxx2.trans hx3) | (go_at_call 61; (have hg := hB1; clear hg); refine (H5.out _ hB1).mono ?_; rintro e w2 ⟨rfl, hx2⟩; have hB2 := hB1.ext hx2; have hxx2 := hxx1.trans hx2) | (go_at_call 61; refine (H0.out _ HB0.out).mono ?_; rintro e w1 ⟨rfl, hx1⟩; have hB1 := HB0.out.ext hx1; have hxx1 := HX0.out.trans hx1) | (go_at_call 62; refine (HD.out _ (hxx3.alloc _)).mono ?_; rintro e w4 ⟨rfl, hx4⟩))
  refine bodyPost_ret (v := .tuple #[.int .i64 N, .int .i64 E]) (by simp [results, Tryz.results39, go_sem, *]) rfl ?_
  exact ⟨rfl, (hxx3.alloc _).trans hx4⟩
end Go.Proofs.YtngjghblpbdciaaGreatDoor

/- The contract of lexer's 'day'. -/
namespace Go.Proofs.YtngjghblpbdciaaGreatDoor
open Go Go.RowKit

def formL : List UInt8 := [64, 100, 100, 100, 100, 45, 100, 100, 45, 100, 100]
/-- A byte fits the form's byte. -/
def fit (f c : UInt8) : Bool := if f = 100 then dig c else decide (c = f)
theorem dated11 (a0 a1 a2 a3 a4 a5 a6 a7 a8 a9 a10 : UInt8) (r : List UInt8) : dated (a0 :: a1 :: a2 :: a3 :: a4 :: a5 :: a6 :: a7 :: a8 :: a9 :: a10 :: r) = true ↔
    (dig a1 = true ∧ dig a2 = true ∧ dig a3 = true ∧ dig a4 = true ∧ a5 = 45 ∧ dig a6 = true ∧ dig a7 = true ∧ a8 = 45 ∧ dig a9 = true ∧ dig a10 = true) := by
  simp [dated, and_assoc]
theorem dated_fit {s : List UInt8} (h0 : s.head? = some 64) (hl : 11 ≤ s.length) : dated s = true ↔ ∀ (j : Nat) (c f : UInt8), s[j]? = some c → formL[j]? = some f → fit f c = true := by
  rcases s with _ | ⟨a0, _ | ⟨a1, _ | ⟨a2, _ | ⟨a3, _ | ⟨a4, _ | ⟨a5, _ | ⟨a6, _ | ⟨a7, _ | ⟨a8, _ | ⟨a9, _ | ⟨a10, r⟩⟩⟩⟩⟩⟩⟩⟩⟩⟩⟩ <;> try (simp at hl; done)
  rw [dated11]
  have e0 : a0 = 64 := by simpa using h0
  constructor
  · rintro ⟨h1, h2, h3, h4, h5, h6, h7, h8, h9, h10⟩ j c f hc hf
    rcases (by
      have : j < formL.length := by
        rcases Nat.lt_or_ge j formL.length with h | h
        · exact h
        · rw [List.getElem?_eq_none h] at hf; cases hf
      have e : formL.length = 11 := rfl
      omega : j = 0 ∨ j = 1 ∨ j = 2 ∨ j = 3 ∨ j = 4 ∨ j = 5 ∨ j = 6 ∨ j = 7 ∨ j = 8 ∨ j = 9 ∨ j = 10) with rfl | rfl | rfl | rfl | rfl | rfl | rfl | rfl | rfl | rfl | rfl <;>
      (simp [formL] at hc hf; subst hc; subst hf; simp [fit, *])
  · intro h
    refine ⟨h 1 a1 100 rfl rfl, h 2 a2 100 rfl rfl, h 3 a3 100 rfl rfl, h 4 a4 100 rfl rfl, ?_, h 6 a6 100 rfl rfl, h 7 a7 100 rfl rfl, ?_, h 9 a9 100 rfl rfl, h 10 a10 100 rfl rfl⟩
    · have := h 5 a5 45 rfl rfl; simpa [fit] using this
    · have := h 8 a8 45 rfl rfl; simpa [fit] using this
theorem ten_of {s : ByteArray} (h : dated s.data.toList = true) : Ten (s.extract 1 11) := by
  have hl : 11 ≤ s.data.toList.length := by simp only [dated, Bool.and_eq_true, decide_eq_true_eq] at h; exact h.1
  have hs : 11 ≤ s.size := by rw [← list_size]; exact hl
  have e := extract_list s 1 11
  generalize s.data.toList = l at *
  rcases l with _ | ⟨a0, _ | ⟨a1, _ | ⟨a2, _ | ⟨a3, _ | ⟨a4, _ | ⟨a5, _ | ⟨a6, _ | ⟨a7, _ | ⟨a8, _ | ⟨a9, _ | ⟨a10, r⟩⟩⟩⟩⟩⟩⟩⟩⟩⟩⟩ <;> try (simp at hl; done)
  rw [dated11] at h
  obtain ⟨h1, h2, h3, h4, h5, h6, h7, h8, h9, h10⟩ := h
  refine ⟨by rw [ByteArray.size_extract]; omega, ?_, ?_, ?_, ?_, ?_⟩ <;> rw [e] <;> simp [*]
theorem dayP_of (s : ByteArray) : dayP ((s.data.toList.drop 1).take 10) =
    if dateB (yOf (s.extract 1 11)) (mOf (s.extract 1 11)) (dOf (s.extract 1 11)) then some (dayNo (yOf (s.extract 1 11)) (mOf (s.extract 1 11)) (dOf (s.extract 1 11))) else none := by
  unfold dayP yOf mOf dOf
  rw [extract_list]
  rfl
end Go.Proofs.YtngjghblpbdciaaGreatDoor

/- The contract of lexer's 'day': the walk. -/
namespace Go.Proofs.YtngjghblpbdciaaGreatDoor
open Go Go.RowKit

def FitTo (l : List UInt8) (i : Nat) : Prop := ∀ (j : Nat) (c f : UInt8), j < i → l[j]? = some c → formL[j]? = some f → fit f c = true
theorem fit_step {l : List UInt8} {i : Nat} {c f : UInt8} (h : FitTo l i) (hc : l[i]? = some c) (hf : formL[i]? = some f) (hk : fit f c = true) : FitTo l (i + 1) := by
  intro j c' f' hj h1 h2
  by_cases e : j = i
  · subst e; rw [hc] at h1; rw [hf] at h2; injection h1 with h1; injection h2 with h2; subst h1; subst h2; exact hk
  · exact h j c' f' (by omega) h1 h2
theorem fit_bad {l : List UInt8} {i : Nat} {c f : UInt8} (h0 : l.head? = some 64) (hl : 11 ≤ l.length) (hc : l[i]? = some c) (hf : formL[i]? = some f) (hk : fit f c = false) : dayT l = .err 20 := by
  rw [dayT, if_neg]
  intro hd
  have := (dated_fit h0 hl).1 hd i c f hc hf
  rw [hk] at this; cases this
theorem fit_all {l : List UInt8} (h0 : l.head? = some 64) (hl : 11 ≤ l.length) (h : FitTo l 11) : dated l = true :=
  (dated_fit h0 hl).2 fun j c f hc hf => h j c f (by
    rcases Nat.lt_or_ge j 11 with h | h
    · exact h
    · have : formL[j]? = none := List.getElem?_eq_none h
      rw [this] at hf; cases hf) hc hf
theorem form_at : ∀ i, i < 11 → ∃ f, formL[i]? = some f ∧ f.toNat < 128 ∧ ∀ h : i < (⟨#[64, 100, 100, 100, 100, 45, 100, 100, 45, 100, 100]⟩ : ByteArray).size, (⟨#[64, 100, 100, 100, 100, 45, 100, 100, 45, 100, 100]⟩ : ByteArray)[i]'h = f := by
  intro i hi
  rcases (by omega : i = 0 ∨ i = 1 ∨ i = 2 ∨ i = 3 ∨ i = 4 ∨ i = 5 ∨ i = 6 ∨ i = 7 ∨ i = 8 ∨ i = 9 ∨ i = 10) with rfl | rfl | rfl | rfl | rfl | rfl | rfl | rfl | rfl | rfl | rfl <;>
    exact ⟨_, rfl, by decide, fun _ => rfl⟩
theorem digI_dig (c : UInt8) : digI (c.toNat : Int) = dig c := by
  rw [digI, dig]; congr 1 <;> (apply decide_eq_decide.2; omega)
def FW (w : World) (i : Nat) : World := (w.alloc (.cells #[.int .i64 0, .int .i64 0, .string ⟨#[]⟩, .int .i64 0] 35)).alloc (.stringIter ⟨#[64, 100, 100, 100, 100, 45, 100, 100, 45, 100, 100]⟩ i)
def DRel (s : ByteArray) (w w' : World) : Prop := ∃ i, i ≤ 11 ∧ FitTo s.data.toList i ∧ w' = FW w i
theorem low_get (s : ByteArray) (i : Nat) (h : i < s.size) : s.data.toList[i]? = some (s[i]'h) := by
  have h' : i < s.data.toList.length := by rw [list_size]; exact h
  rw [List.getElem?_eq_getElem h']; rfl
set_option maxHeartbeats 4000000 in
set_option maxRecDepth 100000 in
theorem lday_any (s : ByteArray) (w : World) (h0 : s.data.toList.head? = some 64) (hs : s.size ≤ 281474976710656) (hL : EnvL w) : Calls Tryz.prog 21 #[.string s] w (TPost (dayT s.data.toList) s w) := by
  by_cases h11 : s.size < 11
  · have hT : dayT s.data.toList = .err 20 := by
      rw [dayT, if_neg]
      intro hd
      simp only [dated, Bool.and_eq_true, decide_eq_true_eq] at hd
      have := hd.1; rw [list_size] at this; omega
    have HT := Lib.hid hT
    have h11' : (s.size : Int) < 11 := by omega
    clear hT
    go_enter Tryz.func21, Tryz.ntmps21
    go_wp2
    refine bodyPost_ret (v := .tuple #[.agg #[.int .i64 0, .int .i64 0, .string ⟨#[]⟩, .int .i64 0], .int .i64 20]) (by simp [results, Tryz.results21, go_sem, *]) rfl ?_
    exact tpost_err HT.out rfl ((Ext.refl w).alloc _)
  · have h11' : ¬ (s.size : Int) < 11 := by omega
    have hl : 11 ≤ s.data.toList.length := by rw [list_size]; omega
    have HL := Lib.hid hL
    have HH := Lib.hid h0
    have HLN := Lib.hid hl
    clear h0 hl hL
    go_enter Tryz.func21, Tryz.ntmps21
    go_wp2
    go_loopw [] (fun w' => DRel s w w') (fun w' => 11 - w'.iterPos (w.heap.size + 1))
    case atStart => exact ⟨0, by omega, fun j c f h => absurd h (by omega), rfl⟩
    case round =>
      obtain ⟨i, hi, hfit, rfl⟩ := hrel
      have HF := Lib.hid hfit
      clear hfit
      by_cases hi11 : i < 11
      · obtain ⟨f, hf, hf128, hfi⟩ := form_at i hi11
        have hisz : i < (⟨#[64, 100, 100, 100, 100, 45, 100, 100, 45, 100, 100]⟩ : ByteArray).size := hi11
        have hnx := fun ty => next_any (w.alloc (.cells #[.int .i64 0, .int .i64 0, .string ⟨#[]⟩, .int .i64 0] 35)) (w.heap.size + 1) (by simp) ⟨#[64, 100, 100, 100, 100, 45, 100, 100, 45, 100, 100]⟩ i ty hisz
        have hdec := decode_ascii ⟨#[64, 100, 100, 100, 100, 45, 100, 100, 45, 100, 100]⟩ i hisz (by rw [hfi hisz]; exact hf128)
        rw [hfi hisz] at hdec
        simp only [hdec] at hnx
        have hsi : i < s.size := by omega
        have hci := low_get s i hsi
        have HD := Lib.hid (fun X => digit_any ((s[i]'hsi).toNat : Int) X)
        have hme : 11 - (FW w (i + 1)).iterPos (w.heap.size + 1) < 11 - (FW w i).iterPos (w.heap.size + 1) := by
          unfold FW; rw [iterPos_at _ _ (by simp), iterPos_at _ _ (by simp)]; omega
        have HM := Lib.hid hme
        have HCI := Lib.hid hci
        have HFF := Lib.hid hf
        clear hdec hfi hme hci hf
        rw [digI_dig] at HD
        have hwr : wrap32 ((s[i]'hsi).toNat : Int) = ((s[i]'hsi).toNat : Int) := by unfold wrap32; (have := (s[i]'hsi).toNat_lt; omega)
        by_cases hf100 : f = 100
        · have g1 : ((f.toNat : Int) == 100) = true := by rw [hf100]; rfl
          cases hdg : dig (s[i]'hsi) with
          | true =>
            rw [hdg] at HD
            have FIN := Lib.hid (show DRel s w (FW w (i + 1)) from ⟨i + 1, by omega, fit_step HF.out HCI.out HFF.out (by rw [fit, if_pos hf100]; exact hdg), rfl⟩)
            clear HF HCI HFF HLN HH
            unfold FW
            go_wp2_with (first | (go_at_call 19; refine (HD.out _).mono ?_; rintro e w1 ⟨rfl, rfl⟩))
            exact ⟨FIN.out, HM.out⟩
          | false =>
            rw [hdg] at HD
            have HT := Lib.hid (fit_bad HH.out HLN.out HCI.out HFF.out (by rw [fit, if_pos hf100]; exact hdg))
            clear HF HCI HFF HLN HH
            unfold FW
            go_wp2_with (first | (go_at_call 19; refine (HD.out _).mono ?_; rintro e w1 ⟨rfl, rfl⟩))
            refine bodyPost_ret (v := .tuple #[.agg #[.int .i64 0, .int .i64 0, .string ⟨#[]⟩, .int .i64 0], .int .i64 20]) (by simp [results, Tryz.results21, go_sem, *]) rfl ?_
            exact tpost_err HT.out rfl (by repeat (first | exact Ext.refl _ | apply Ext.alloc))
        · have g1 : ((f.toNat : Int) == 100) = false := by
            rw [beq_eq_false_iff_ne]; intro e; exact hf100 (UInt8.toNat_inj.1 (by have : (100 : UInt8).toNat = 100 := rfl; omega))
          have g2 : ((f.toNat : Int) != 100) = true := by rw [bne_iff_ne]; exact beq_eq_false_iff_ne.1 g1
          by_cases hcf : s[i]'hsi = f
          · have g3 : (((s[i]'hsi).toNat : Int) != (f.toNat : Int)) = false := by rw [hcf]; simp
            have FIN := Lib.hid (show DRel s w (FW w (i + 1)) from ⟨i + 1, by omega, fit_step HF.out HCI.out HFF.out (by rw [fit, if_neg hf100]; exact decide_eq_true hcf), rfl⟩)
            clear HF HCI HFF HLN HH
            unfold FW
            go_wp2_with (first | (go_at_call 19; refine (HD.out _).mono ?_; rintro e w1 ⟨rfl, rfl⟩))
            exact ⟨FIN.out, HM.out⟩
          · have g3 : (((s[i]'hsi).toNat : Int) != (f.toNat : Int)) = true := by
              rw [bne_iff_ne]; intro e; exact hcf (UInt8.toNat_inj.1 (by omega))
            have HT := Lib.hid (fit_bad HH.out HLN.out HCI.out HFF.out (by rw [fit, if_neg hf100]; exact decide_eq_false hcf))
            clear HF HCI HFF HLN HH
            unfold FW
            go_wp2_with (first | (go_at_call 19; refine (HD.out _).mono ?_; rintro e w1 ⟨rfl, rfl⟩))
            refine bodyPost_ret (v := .tuple #[.agg #[.int .i64 0, .int .i64 0, .string ⟨#[]⟩, .int .i64 0], .int .i64 20]) (by simp [results, Tryz.results21, go_sem, *]) rfl ?_
            exact tpost_err HT.out rfl (by repeat (first | exact Ext.refl _ | apply Ext.alloc))
      · obtain rfl : i = 11 := by omega
        have hnx := fun ty => next_end (w.alloc (.cells #[.int .i64 0, .int .i64 0, .string ⟨#[]⟩, .int .i64 0] 35)) (w.heap.size + 1) (by simp) ⟨#[64, 100, 100, 100, 100, 45, 100, 100, 45, 100, 100]⟩ 11 ty (by decide)
        have hdt := fit_all HH.out HLN.out HF.out
        have hx0 : Ext w (FW w 11) := by unfold FW; exact ((Ext.refl w).alloc _).alloc _
        have htb : TBox (FW w 11) w.heap.size 0 0 ⟨#[]⟩ 0 := by unfold FW; exact (TBox.new w 0 0 0 ⟨#[]⟩ 35).ext ((Ext.refl _).alloc _)
        have hP := fun X (hX : Ext w X) => parse_any (s.extract 1 11) X (ten_of hdt) (HL.out.ext hX)
        have hdp := dayP_of s
        have hT0 : dayT s.data.toList = match dayP ((s.data.toList.drop 1).take 10) with | some d => T1.ok 3 11 d | none => .err 5 := by rw [dayT, if_pos hdt] <;> cases dayP ((s.data.toList.drop 1).take 10) <;> rfl
        rw [hdp] at hT0
        unfold DayPost at hP
        generalize yOf (s.extract 1 11) = y at *
        generalize mOf (s.extract 1 11) = m at *
        generalize dOf (s.extract 1 11) = d at *
        have h11s : 11 ≤ s.size := by omega
        cases hb : dateB y m d with
        | true =>
          have HP := Lib.hid (fun X (hX : Ext w X) => (hP X hX).mono (show ∀ e X', _ → (e = .returned (.tuple #[.int .i64 (dayNo y m d : Nat), .int .i64 0]) ∧ Ext X X') from fun e X' h => by rw [hb] at h; rw [chkE, hb] at h; exact h))
          have HT := Lib.hid (show dayT s.data.toList = .ok 3 11 (dayNo y m d : Nat) by rw [hT0, hb]; rfl)
          have HX := Lib.hid hx0
          have HB := Lib.hid htb
          generalize dayNo y m d = N at *
          clear hP hT0 hdp hdt HF HH HLN hx0 htb hb
          unfold FW
          go_wp2_with (first | (go_at_call 39; refine (HP.out _ HX.out).mono ?_; rintro e w1 ⟨rfl, hx⟩; have q := HB.out.ext hx; have hx3 := HX.out.trans hx; obtain ⟨q0, q1, q2, q3, q4, q5, q6, q7, q8⟩ := q))
          refine bodyPost_ret (v := .tuple #[.agg #[.int .i64 3, .int .i64 0, .string (s.extract 0 11), .int .i64 N], .int .i64 0]) (by simp [results, Tryz.results21, go_sem, *]) rfl ?_
          exact tpost_ok HT.out rfl rfl (extract_take _ _) (hx3.store4 (Nat.le_refl _) _ _ _ _)
        | false =>
          have HP := Lib.hid (fun X (hX : Ext w X) => (hP X hX).mono (show ∀ e X', _ → (e = .returned (.tuple #[.int .i64 0, .int .i64 5]) ∧ Ext X X') from fun e X' h => by rw [hb] at h; rw [chkE, hb] at h; exact h))
          have HT := Lib.hid (show dayT s.data.toList = .err 5 by rw [hT0, hb]; rfl)
          have HX := Lib.hid hx0
          have HB := Lib.hid htb
          clear hP hT0 hdp hdt HF HH HLN hx0 htb hb
          unfold FW
          go_wp2_with (first | (go_at_call 39; refine (HP.out _ HX.out).mono ?_; rintro e w1 ⟨rfl, hx⟩; have q := HB.out.ext hx; have hx3 := HX.out.trans hx; obtain ⟨q0, q1, q2, q3, q4, q5, q6, q7, q8⟩ := q))
          refine bodyPost_ret (v := .tuple #[.agg #[.int .i64 0, .int .i64 0, .string ⟨#[]⟩, .int .i64 0], .int .i64 5]) (by simp [results, Tryz.results21, go_sem, *]) rfl ?_
          exact tpost_err HT.out rfl (hx3.store4 (Nat.le_refl _) _ _ _ _)
end Go.Proofs.YtngjghblpbdciaaGreatDoor

/- Plain law: how tokens behave when something is written behind a text. -/
namespace Go.Proofs.YtngjghblpbdciaaGreatDoor
open Go

theorem tok1_err_ne {s : List UInt8} {e : Int} (h : tok1 s = .err e) : e ≠ 0 := by
  cases s with
  | nil => injection h with h; subst h; decide
  | cons c r =>
    rw [tok1_cons] at h
    repeat' split at h
    all_goals first | (injection h with h; subst h; decide) | cases h

/-! ### White space and comments -/
/-- Tokens hang on what is left behind the white space, and on where it stands. -/
theorem lex_skip {k k' : Nat} {s s' : List UInt8} (h : skipB false s = skipB false s') (hk : k + s.length = k' + s'.length) : lexW k s = lexW k' s' := by
  have h1 := skipB_len false s
  have h2 := skipB_len false s'
  rw [h] at h1
  by_cases h0 : skipB false s' = []
  · rw [lex_end (h.trans h0), lex_end h0, hk]
  · have e : k + (s.length - (skipB false s').length) = k' + (s'.length - (skipB false s').length) := by omega
    cases ht : tok1 (skipB false s') with
    | err e' => rw [lex_err (s := s) (h ▸ h0) (h ▸ ht), lex_err h0 ht, h, e]
    | ok kd n v =>
      have hn := (tok1_len ht).1
      rw [lex_ok (s := s) (h ▸ h0) (h ▸ ht) hn, lex_ok h0 ht hn, h, e]
end Go.Proofs.YtngjghblpbdciaaGreatDoor
