/- Plain law: what a source's tokens are; no walk in sight. -/
import Derived.WalkKit
import Derived.WalkSpells
import Derived.WalkSmall
import Derived.WalkLawsBesides
import Derived.Below
import Derived.IntWalk
import Derived.Lib.Hide
import Derived.Test.YtnpenepdechkjaaGreatDoorProg
import Derived.Maps.AppendAt
namespace Go.Proofs.YtnpenepdechkjaaGreatDoor
open Go

def dig (c : UInt8) : Bool := decide (48 ≤ c.toNat) && decide (c.toNat ≤ 57)
def low (c : UInt8) : Bool := decide (97 ≤ c.toNat) && decide (c.toNat ≤ 122)
def wch (c : UInt8) : Bool := low c || dig c
def blk (c : UInt8) : Bool := decide (c = 9) || (decide (c = 10) || (decide (c = 13) || decide (c = 32)))
theorem dig_iff {c : UInt8} : dig c = true ↔ 48 ≤ c.toNat ∧ c.toNat ≤ 57 := by simp [dig]
theorem low_iff {c : UInt8} : low c = true ↔ 97 ≤ c.toNat ∧ c.toNat ≤ 122 := by simp [low]
def dstep (a : Nat) (c : UInt8) : Nat := 10 * a + (c.toNat - 48)
/-- The value of digits behind a number. -/
def dval (a : Nat) (l : List UInt8) : Nat := l.foldl dstep a
theorem dval_nil (a : Nat) : dval a [] = a := rfl
theorem dval_cons (a : Nat) (c : UInt8) (l : List UInt8) : dval a (c :: l) = dval (10 * a + (c.toNat - 48)) l := by simp only [dval, List.foldl_cons, dstep]
theorem dval_snoc (l : List UInt8) (a : Nat) (c : UInt8) : dval a (l ++ [c]) = 10 * dval a l + (c.toNat - 48) := by
  simp only [dval, List.foldl_append, List.foldl_cons, List.foldl_nil, dstep]

/-! ### Days -/
def leap (y : Nat) : Bool := decide (y % 4 = 0) && (!decide (y % 100 = 0) || decide (y % 400 = 0))
def mlen (y m : Nat) : Nat :=
  if m = 2 then (if leap y then 29 else 28) else if m = 4 ∨ m = 6 ∨ m = 9 ∨ m = 11 then 30 else if 1 ≤ m ∧ m ≤ 12 then 31 else 0
def dateB (y m d : Nat) : Bool := decide (1 ≤ y) && (decide (y ≤ 9999) && (decide (1 ≤ m) && (decide (m ≤ 12) && (decide (1 ≤ d) && decide (d ≤ mlen y m)))))
/-- The days of the months ahead of one. -/
def mdays (y : Nat) : Nat → Nat
  | 0 => 0
  | 1 => 0
  | m + 2 => mdays y (m + 1) + mlen y (m + 1)
def dayNo (y m d : Nat) : Nat := 365 * (y - 1) + (y - 1) / 4 - (y - 1) / 100 + (y - 1) / 400 + mdays y m + d - 1
/-- The day that ten bytes spell, if they are a date. -/
def dayP (l : List UInt8) : Option Nat :=
  let y := dval 0 (l.take 4); let m := dval 0 ((l.drop 5).take 2); let d := dval 0 ((l.drop 8).take 2)
  if dateB y m d then some (dayNo y m d) else none

/-! ### One token -/
inductive T1 where
  | err (e : Int)
  | ok (k : Int) (n : Nat) (v : Int)
def dated (s : List UInt8) : Bool :=
  decide (11 ≤ s.length) && (((s.drop 1).take 4).all dig && (decide (s[5]? = some 45) && (((s.drop 6).take 2).all dig && (decide (s[8]? = some 45) && ((s.drop 9).take 2).all dig))))
def symN : List UInt8 → Nat
  | [] => 0
  | c :: r => if (c = 60 ∨ c = 33 ∨ c = 62) ∧ r.head? = some 61 then 2
    else if c = 123 ∨ c = 125 ∨ c = 40 ∨ c = 41 ∨ c = 59 ∨ c = 44 ∨ c = 43 ∨ c = 45 ∨ c = 42 ∨ c = 60 ∨ c = 61 ∨ c = 62 then 1 else 0
theorem symN_cons (c : UInt8) (r : List UInt8) : symN (c :: r) = if (c = 60 ∨ c = 33 ∨ c = 62) ∧ r.head? = some 61 then 2
    else if c = 123 ∨ c = 125 ∨ c = 40 ∨ c = 41 ∨ c = 59 ∨ c = 44 ∨ c = 43 ∨ c = 45 ∨ c = 42 ∨ c = 60 ∨ c = 61 ∨ c = 62 then 1 else 0 := rfl
/-- The token at the beginning of a text that is not empty. -/
def tok1 (s : List UInt8) : T1 :=
  match s with
  | [] => .err 20
  | c :: _ =>
    if low c then (if 12 < (s.takeWhile wch).length then .err 2 else .ok 1 (s.takeWhile wch).length 0)
    else if dig c then
      (if 1 < (s.takeWhile dig).length ∧ c = 48 then .err 20
       else if 2147483647 < dval 0 (s.takeWhile dig) then .err 5 else .ok 2 (s.takeWhile dig).length (dval 0 (s.takeWhile dig)))
    else if c = 64 then (if dated s then (match dayP ((s.drop 1).take 10) with | some d => .ok 3 11 d | none => .err 5) else .err 20)
    else if symN s = 0 then .err 20 else .ok 4 (symN s) 0

theorem tok1_cons (c : UInt8) (r : List UInt8) : tok1 (c :: r) =
    if low c then (if 12 < ((c :: r).takeWhile wch).length then .err 2 else .ok 1 ((c :: r).takeWhile wch).length 0)
    else if dig c then
      (if 1 < ((c :: r).takeWhile dig).length ∧ c = 48 then .err 20
       else if 2147483647 < dval 0 ((c :: r).takeWhile dig) then .err 5 else .ok 2 ((c :: r).takeWhile dig).length (dval 0 ((c :: r).takeWhile dig)))
    else if c = 64 then (if dated (c :: r) then (match dayP (((c :: r).drop 1).take 10) with | some d => .ok 3 11 d | none => .err 5) else .err 20)
    else if symN (c :: r) = 0 then .err 20 else .ok 4 (symN (c :: r)) 0 := rfl

/-! ### All tokens -/
/-- What is left behind white space and comments; 'cm': in a comment. -/
def skipB : Bool → List UInt8 → List UInt8
  | _, [] => []
  | cm, c :: r => if c = 10 then skipB false r else if c = 35 then skipB true r else if cm || blk c then skipB cm r else c :: r
theorem skipB_len : ∀ (cm : Bool) (s : List UInt8), (skipB cm s).length ≤ s.length
  | _, [] => by simp [skipB]
  | cm, c :: r => by
    rw [skipB]
    split
    · exact Nat.le_succ_of_le (skipB_len false r)
    · split
      · exact Nat.le_succ_of_le (skipB_len true r)
      · split
        · exact Nat.le_succ_of_le (skipB_len cm r)
        · exact Nat.le_refl _
structure Tk where
  kd : Int
  at_ : Int
  tx : List UInt8
  nm : Int
  deriving DecidableEq
/-- The tokens, or the offset of the first error and its code. -/
structure LexR where
  l : List Tk
  off : Int
  e : Int
def LexR.put (t : Tk) (r : LexR) : LexR := if r.e = 0 then ⟨t :: r.l, r.off, 0⟩ else r
def lexW (k : Nat) (s : List UInt8) : LexR :=
  if _h0 : skipB false s = [] then ⟨[⟨0, (k + s.length : Nat), [], 0⟩], 0, 0⟩
  else match tok1 (skipB false s) with
    | .err e => ⟨[], (k + (s.length - (skipB false s).length) : Nat), e⟩
    | .ok kd n v =>
      if _h : 0 < n then (lexW (k + (s.length - (skipB false s).length) + n) ((skipB false s).drop n)).put ⟨kd, (k + (s.length - (skipB false s).length) : Nat), (skipB false s).take n, v⟩
      else ⟨[], 0, 20⟩
termination_by s.length
decreasing_by
  have h1 := skipB_len false s
  have h2 : 0 < (skipB false s).length := by
    cases hs : skipB false s with
    | nil => exact absurd hs _h0
    | cons => simp
  rw [List.length_drop]
  omega
theorem lex_end {k : Nat} {s : List UInt8} (h : skipB false s = []) : lexW k s = ⟨[⟨0, (k + s.length : Nat), [], 0⟩], 0, 0⟩ := by
  rw [lexW, dif_pos h]
theorem lex_err {k : Nat} {s : List UInt8} {e : Int} (h : skipB false s ≠ []) (ht : tok1 (skipB false s) = .err e) : lexW k s = ⟨[], (k + (s.length - (skipB false s).length) : Nat), e⟩ := by
  rw [lexW, dif_neg h, ht]
theorem lex_ok {k : Nat} {s : List UInt8} {kd : Int} {n : Nat} {v : Int} (h : skipB false s ≠ []) (ht : tok1 (skipB false s) = .ok kd n v) (hn : 0 < n) :
    lexW k s = (lexW (k + (s.length - (skipB false s).length) + n) ((skipB false s).drop n)).put ⟨kd, (k + (s.length - (skipB false s).length) : Nat), (skipB false s).take n, v⟩ := by
  rw [lexW, dif_neg h, ht]
  simp only [dif_pos hn]
/-- A token that is read is not empty, and lies in the text. -/
theorem tok1_len {s : List UInt8} {kd : Int} {n : Nat} {v : Int} (h : tok1 s = .ok kd n v) : 0 < n ∧ n ≤ s.length := by
  cases s with
  | nil => cases h
  | cons c r =>
    rw [tok1_cons] at h
    split at h
    · rename_i hl
      split at h
      · cases h
      · injection h with _ h2 _
        subst h2
        have : wch c = true := by simp [wch, hl]
        rw [List.takeWhile_cons, this]
        simp
        exact (List.takeWhile_sublist _).length_le
    · split at h
      · rename_i hd
        split at h
        · cases h
        · split at h
          · cases h
          · injection h with _ h2 _
            subst h2
            rw [List.takeWhile_cons, hd]
            simp
            exact (List.takeWhile_sublist _).length_le
      · split at h
        · split at h
          · rename_i hd
            split at h
            · injection h with _ h2 _
              subst h2
              simp only [dated, Bool.and_eq_true, decide_eq_true_eq] at hd
              exact ⟨by omega, hd.1⟩
            · cases h
          · cases h
        · split at h
          · cases h
          · rename_i hs
            injection h with _ h2 _
            subst h2
            refine ⟨Nat.pos_of_ne_zero hs, ?_⟩
            rw [symN_cons]
            split
            · rename_i hc
              cases r with
              | nil => simp at hc
              | cons => simp
            · split <;> simp
end Go.Proofs.YtnpenepdechkjaaGreatDoor

/- What all walks of this claim share: worlds that grow; bytes and runes; the functions on runes. -/
namespace Go.Proofs.YtnpenepdechkjaaGreatDoor
open Go Go.RowKit

/-- w' is w with new blocks alone: every block that was there is as it was. A name of its own, so that no simp opens it. -/
def Ext (w w' : World) : Prop := Below w.heap.size w w'
theorem Ext.refl (w : World) : Ext w w := Below.refl _ _
theorem Ext.trans {a b c : World} (h : Ext a b) (k : Ext b c) : Ext a c := Below.trans h (Below.mono k h.size)
theorem Ext.alloc {a w : World} (h : Ext a w) (o : Obj) : Ext a (w.alloc o) := Below.alloc h h.size o
theorem Ext.drewN {a w : World} (h : Ext a w) (n : Nat) : Ext a (w.drewN n) := below_drewN h n
theorem Ext.drew {a w : World} (h : Ext a w) : Ext a w.drew := Below.drew h
theorem Ext.lt {a w : World} (h : Ext a w) : a.heap.size ≤ w.heap.size := h.size
theorem Ext.setCell {a w : World} (h : Ext a w) {p : Addr} (hp : a.heap.size ≤ p.block) (u : Value) : Ext a (w.setCell p u) := Below.setCell h hp u
theorem Ext.cells {w w1 : World} (hb : Ext w w1) : (∀ b o, b < w.heap.size → w1.cell? ⟨b, o, none⟩ = w.cell? ⟨b, o, none⟩) ∧ (∀ b o, b < w.heap.size → w1.frozen? ⟨b, o, none⟩ = w.frozen? ⟨b, o, none⟩) :=
  ⟨fun b o h => hb.cell (p := ⟨b, o, none⟩) h, fun b o h => hb.frozen (p := ⟨b, o, none⟩) h⟩
theorem ret_int {a b : Int} (h : a = b) : Ending.returned (.int .i64 a) = .returned (.int .i64 b) := by rw [h]
theorem ret_bool {a b : Bool} (h : a = b) : Ending.returned (.bool a) = .returned (.bool b) := by rw [h]
def BoolPost (b : Bool) (w : World) (e : Ending) (w' : World) : Prop := e = .returned (.bool b) ∧ Ext w w'
def StrPost (s : List UInt8) (w : World) (e : Ending) (w' : World) : Prop := e = .returned (.string ⟨s.toArray⟩) ∧ Ext w w'
theorem list_size (s : ByteArray) : s.data.toList.length = s.size := by simp
theorem get_list (s : ByteArray) (pos : Nat) (h : pos < s.size) : s.data.toList.drop pos = (s[pos]'h) :: s.data.toList.drop (pos + 1) := by
  have h' : pos < s.data.toList.length := by simpa using h
  rw [List.drop_eq_getElem_cons h']
  rfl
theorem drop_end (s : ByteArray) (pos : Nat) (h : ¬ pos < s.size) : s.data.toList.drop pos = [] := by
  apply List.drop_eq_nil_of_le
  rw [list_size]; omega
theorem next_end (W : World) (b : Nat) (hb : b = W.heap.size) (s : ByteArray) (pos : Nat) (ty : TypeId) (h : ¬ pos < s.size) :
    (Instr.next (.pointer (some ⟨b, 0, none⟩)) true ty).run Tryz.prog (W.alloc (.stringIter s pos)) = .ok (.tuple #[.bool false]) (W.alloc (.stringIter s pos)) := by
  subst hb; exact run_next_end W s pos ty h
theorem next_any (W : World) (b : Nat) (hb : b = W.heap.size) (s : ByteArray) (pos : Nat) (ty : TypeId) (h : pos < s.size) :
    (Instr.next (.pointer (some ⟨b, 0, none⟩)) true ty).run Tryz.prog (W.alloc (.stringIter s pos)) = .ok (.tuple #[.bool true, .int .i64 pos, .int .i32 (Utf8.decode s pos).1]) (W.alloc (.stringIter s (pos + (Utf8.decode s pos).2))) := by
  subst hb; exact run_next_any W s pos ty h
theorem iterPos_at (W : World) (b : Nat) (hb : b = W.heap.size) (s : ByteArray) (p : Nat) : (W.alloc (.stringIter s p)).iterPos b = p := by
  subst hb; exact World.iterPos_iter W s p
/-- The bytes that a rune of more than one byte takes are all of the upper half. -/
theorem decode_cont (s : ByteArray) (pos : Nat) (h : pos < s.size) (ha : 128 ≤ (s[pos]'h).toNat) : ∀ j, pos ≤ j → j < pos + (Utf8.decode s pos).2 → ∃ hj : j < s.size, 128 ≤ (s[j]'hj).toNat := by
  have get : ∀ k, (hk : pos + k < s.size) → s.get! (pos + k) = s[pos + k]'hk := fun k hk => get_at s (pos + k) hk
  intro j h1 h2
  by_cases hj0 : j = pos
  · subst hj0; exact ⟨h, ha⟩
  have hb0 : ¬ (s.get! (pos + 0)).toNat < 128 := by rw [get_at s pos h]; omega
  have cont : ∀ k, (decide (pos + k < s.size) && ((s.get! (pos + k)).toNat / 64 == 2)) = true → ∃ hk : pos + k < s.size, 128 ≤ (s[pos + k]'hk).toNat := fun k hk => by
    simp only [Bool.and_eq_true, decide_eq_true_eq, beq_iff_eq] at hk
    refine ⟨hk.1, ?_⟩
    have := hk.2
    rw [get k hk.1] at this
    omega
  simp only [Utf8.decode, hb0, if_false] at h2
  split at h2
  · rename_i hc
    simp only [Bool.and_eq_true] at hc
    split at h2
    · obtain rfl : j = pos + 1 := by simp at h2; omega
      exact cont 1 (by simpa using hc.2)
    · simp at h2; omega
  · split at h2
    · rename_i hc
      simp only [Bool.and_eq_true] at hc
      split at h2
      · have hj : j = pos + 1 ∨ j = pos + 2 := by simp at h2; omega
        rcases hj with rfl | rfl
        · exact cont 1 (by simpa using hc.1.2)
        · exact cont 2 (by simpa using hc.2)
      · simp at h2; omega
    · split at h2
      · rename_i hc
        simp only [Bool.and_eq_true] at hc
        split at h2
        · have hj : j = pos + 1 ∨ j = pos + 2 ∨ j = pos + 3 := by simp at h2; omega
          rcases hj with rfl | rfl | rfl
          · exact cont 1 (by simpa using hc.1.1.2)
          · exact cont 2 (by simpa using hc.1.2)
          · exact cont 3 (by simpa using hc.2)
        · simp at h2; omega
      · simp at h2; omega
end Go.Proofs.YtnpenepdechkjaaGreatDoor

/- Rows of whatever elements: slices whose cells are known, rows that a call has made itself, append; over any program. -/
namespace Go.Proofs.YtnpenepdechkjaaGreatDoor
open Go Go.RowKit

theorem own_form {w : World} {base : Nat} {e : TypeId} {size : Nat} {v : Value} {n : Nat} {xs : List Value} (h : w.ownsRow base e size v n xs) :
    ∃ A c, v = .slice A n c ∧ n ≤ c ∧ (A = none ∧ n = 0 ∧ c = 0 ∨ ∃ g, A = some ⟨g, 0, none⟩ ∧ base ≤ g ∧ g < w.heap.size ∧ ∀ j u, xs[j]? = some u → w.cell? ⟨g, j, none⟩ = some u) := by
  rcases h.2 with ⟨rfl, rfl⟩ | ⟨g, cap, cur, rfl, hb, hg, hn, _, _, _⟩
  · exact ⟨none, 0, rfl, Nat.le_refl _, .inl ⟨rfl, rfl, rfl⟩⟩
  · refine ⟨some ⟨g, 0, none⟩, cap, rfl, hn, .inr ⟨g, rfl, hb, lt_of_block hg, fun j u hu => ?_⟩⟩
    have := h.cells (g := g) rfl j u hu
    rwa [Addr.add_lit, Nat.zero_add] at this
/-- append onto a row of the call's own: the source is nil, or its cells are known. -/
theorem run_append_src5 {P : Program} {w : World} {base : Nat} {t e : TypeId} {z : Value} {size bytes : Nat} (ht : P.underlying t = some (.slice e)) (hinfo : (P.info? e).map (fun i => (i.zero, i.size, i.bytes)) = some (some z, size, bytes))
    (hzs : z.cells.size = size) (hsz : 0 < size) {v : Value} {n : Nat} {xs : List Value} (hown : w.ownsRow base e size v n xs) {A : Option Addr} {m c : Nat} {news : List Value} (hl : news.length = m * size)
    (hA : 0 < m → ∃ b off, A = some ⟨b, off, none⟩ ∧ ∀ j u, news[j]? = some u → w.cell? ⟨b, off + j, none⟩ = some u) (h1 : ∀ u ∈ news, u.oneCell' = true)
    (h63 : n + m ≤ maxLen) (hbytes : (n + m) * bytes ≤ 140737488355328) (hbase : base ≤ w.heap.size) :
    ∃ A' c' w', (Builtin.append_ #[t, t] t #[v, .slice A m c]).run P w = .ok (.slice A' (n + m) c') w' ∧ w'.ownsRow base e size (.slice A' (n + m) c') (n + m) (xs ++ news) ∧ (∀ B, B ≤ base → Below B w w') ∧
      (∀ k, k < w.heap.size → (∀ a, v ≠ .slice (some ⟨k, 0, none⟩) n a) → w'.heap[k]? = w.heap[k]?) ∧ ((Value.slice A' (n + m) c').ownBlock = v.ownBlock ∨ (Value.slice A' (n + m) c').ownBlock = some w.heap.size) := by
  obtain ⟨i, hi, hz, hs, hb⟩ := info_parts hinfo
  have fin : ∀ v' w', w'.ownsRow base e size v' (n + m) (xs ++ news) → w.grownBy w' v.ownBlock → (v'.ownBlock = v.ownBlock ∨ v'.ownBlock = some w.heap.size) → (Builtin.append_ #[t, t] t #[v, .slice A m c]).run P w = .ok v' w' →
      ∃ A' c' w', (Builtin.append_ #[t, t] t #[v, .slice A m c]).run P w = .ok (.slice A' (n + m) c') w' ∧ w'.ownsRow base e size (.slice A' (n + m) c') (n + m) (xs ++ news) ∧ (∀ B, B ≤ base → Below B w w') ∧
      (∀ k, k < w.heap.size → (∀ a, v ≠ .slice (some ⟨k, 0, none⟩) n a) → w'.heap[k]? = w.heap[k]?) ∧ ((Value.slice A' (n + m) c').ownBlock = v.ownBlock ∨ (Value.slice A' (n + m) c').ownBlock = some w.heap.size) := by
    intro v' w' h2 h3 h9 h4
    obtain ⟨A', c', rfl, _, _⟩ := own_form h2
    refine ⟨A', c', w', h4, h2, fun B hB => (Below.refl B w).grown h3 (Nat.le_trans hB hbase) (fun k hk => Nat.le_trans hB (hown.lt k hk).1), fun k hk hne => h3.block k hk (fun e => ?_), h9⟩
    rcases hown.2 with ⟨rfl, _⟩ | ⟨g, cap, cur, rfl, _⟩
    · simp [Value.ownBlock] at e
    · simp only [Value.ownBlock, Option.some.injEq] at e
      subst e
      exact hne _ rfl
  by_cases h0 : 0 < m
  · obtain ⟨b, off, rfl, hc⟩ := hA h0
    obtain ⟨v', w', hr, h2, h3, _, h9⟩ := run_append_own_at (P := P) w base t t e i z size bytes ht hi hz hs hb hzs hsz v n xs hown ⟨b, off, none⟩ m c news hl (fun j u hu => by rw [Addr.add_lit]; exact hc j u hu) h1 h63 hbytes hbase
    exact fin v' w' h2 h3 h9 hr
  · obtain rfl : m = 0 := by omega
    obtain rfl : news = [] := List.eq_nil_of_length_eq_zero (by simpa using hl)
    rcases A with _ | ad
    · have hr : (Builtin.append_ #[t, t] t #[v, .slice none 0 c]).run P w = .ok v w := by
        rcases hown.2 with ⟨rfl, rfl⟩ | ⟨g, cap, cur, rfl, _, _, hnc, _⟩
        · simp [Builtin.append_, run_underlying ht, sizeOf, typeInfo, hi, Builtin.lenOf, Builtin.firstCells]
        · simp [Builtin.append_, run_underlying ht, sizeOf, typeInfo, hi, Builtin.lenOf, Builtin.firstCells, hnc, storeCells]
      exact fin v w (by simpa using hown) (World.grownBy.refl w _) (.inl rfl) hr
    · obtain ⟨v', w', hr, h2, h3, _, h9⟩ := run_append_own_at (P := P) w base t t e i z size bytes ht hi hz hs hb hzs hsz v n xs hown ad 0 c [] hl (fun j u hu => by simp at hu) h1 h63 hbytes hbase
      exact fin v' w' h2 h3 h9 hr

/-- append, where its run is known. -/
theorem wpList_append_run {P : Program} {w : World} {ops : Array Oper} {rest : List Oper} {o : Oper} {a : Act} {Q : Exit → Act → World → Prop} {s x : Operand} {t : TypeId} {vs vx v' : Value} {w' : World}
    (hr : (Builtin.append_ #[t, t] t #[vs, vx]).run P w = .ok v' w') (hgd : o.guard = none)
    (ho : o.op = .call { callee := .builtin .append, args := #[s, x], argTypes := #[t, t] }) (hty : o.type = t) (hs : a.eval s = vs) (hx : a.eval x = vx)
    (h : wpList P ops Q rest (a.put o.dst v') w') : wpList P ops Q (o :: rest) a w := by
  refine wpList_plain hgd fun _ hK => ?_
  unfold Oper.wp execOp
  simp only [ho, hty, resolve, invoke, builtin, Sem.run_bind, Sem.run_pure, Result.andThen_ok, List.map_toArray, List.map_cons, List.map_nil, hs, hx, hr]
  exact hK _ _ h

section
variable {α : Type} (cf : α → List Value) (sz : Nat)
def gcells (l : List α) : List Value := l.flatMap cf
variable {cf sz}
theorem gcells_len (hcf : ∀ a, (cf a).length = sz) (l : List α) : (gcells cf l).length = l.length * sz := by
  induction l with
  | nil => simp [gcells]
  | cons v l ih => simp only [gcells, List.flatMap_cons, List.length_append] at ih ⊢; rw [ih, hcf, List.length_cons, Nat.succ_mul]; omega
theorem gcells_at (hcf : ∀ a, (cf a).length = sz) (l : List α) : ∀ (i : Nat) (a : α), l[i]? = some a → ∀ j, j < sz → (gcells cf l)[i * sz + j]? = (cf a)[j]? := by
  induction l with
  | nil => intro i a h; simp at h
  | cons v l ih =>
    intro i a h j hj
    simp only [gcells, List.flatMap_cons]
    cases i with
    | zero =>
      obtain rfl : v = a := by simpa using h
      rw [List.getElem?_append_left (by rw [hcf]; omega)]; simp
    | succ i =>
      rw [List.getElem?_append_right (by rw [hcf, Nat.succ_mul]; omega)]
      have e : (i + 1) * sz + j - (cf v).length = i * sz + j := by rw [hcf, Nat.succ_mul]; omega
      rw [e]
      exact ih i a (by simpa using h) j hj
theorem gcells_append (a b : List α) : gcells cf (a ++ b) = gcells cf a ++ gcells cf b := by simp [gcells]
theorem gcells_one (h1 : ∀ a, ∀ u ∈ cf a, u.oneCell' = true) (l : List α) : ∀ u ∈ gcells cf l, u.oneCell' = true := by
  intro u hu
  obtain ⟨v, _, hv⟩ := List.mem_flatMap.1 hu
  exact h1 v u hv
variable (cf sz)
/-- The elements l lie, m of them, behind the address A. -/
def SL (W : World) (A : Option Addr) (m : Nat) (l : List α) : Prop :=
  m = l.length ∧ (0 < m → ∃ b off, A = some ⟨b, off, none⟩ ∧ b < W.heap.size ∧ ∀ i a, l[i]? = some a → ∀ j u, (cf a)[j]? = some u → W.cell? ⟨b, off + i * sz + j, none⟩ = some u)
/-- The slice value v holds the elements l in a row of its own, in a block from base on. -/
def OL (w : World) (base : Nat) (e : TypeId) (v : Value) (l : List α) : Prop := w.ownsRow base e sz v l.length (gcells cf l)
variable {cf sz}
theorem SL.ext {W W' : World} {A : Option Addr} {m : Nat} {l : List α} (h : SL cf sz W A m l) (hx : Ext W W') : SL cf sz W' A m l := by
  refine ⟨h.1, fun h0 => ?_⟩
  obtain ⟨b, off, rfl, hb, hc⟩ := h.2 h0
  obtain ⟨q, _⟩ := hx.cells
  exact ⟨b, off, rfl, Nat.lt_of_lt_of_le hb hx.lt, fun i a hi j u hu => by rw [q _ _ hb]; exact hc i a hi j u hu⟩
theorem SL.nil (W : World) : SL cf sz W none 0 ([] : List α) := ⟨rfl, fun h => absurd h (by omega)⟩
theorem OL.nil (w : World) (base : Nat) (e : TypeId) : OL cf sz w base e (.slice none 0 0) ([] : List α) := World.ownsRow_nil w base e sz
theorem OL.form (hcf : ∀ a, (cf a).length = sz) {w : World} {base : Nat} {e : TypeId} {v : Value} {l : List α} (h : OL cf sz w base e v l) :
    ∃ A c, v = .slice A l.length c ∧ l.length ≤ c ∧ SL cf sz w A l.length l := by
  obtain ⟨A, c, rfl, hc, hh⟩ := own_form h
  refine ⟨A, c, rfl, hc, rfl, fun h0 => ?_⟩
  rcases hh with ⟨_, hn, _⟩ | ⟨g, rfl, hb, hg, hx⟩
  · omega
  · refine ⟨g, 0, rfl, hg, fun i a hi j u hu => ?_⟩
    have hj : j < sz := by rw [← hcf a]; exact (List.getElem?_eq_some_iff.1 hu).1
    have := hx (i * sz + j) u ((gcells_at hcf l i a hi j hj).trans hu)
    simpa [Nat.add_assoc] using this
theorem OL.ext {w w' : World} {base : Nat} {e : TypeId} {v : Value} {l : List α} (h : OL cf sz w base e v l) (hx : Ext w w') : OL cf sz w' base e v l := by
  refine ⟨h.1, ?_⟩
  rcases h.2 with h2 | ⟨g, cap, cur, h1, h2, h3, h4⟩
  · exact .inl h2
  · exact .inr ⟨g, cap, cur, h1, h2, by rw [hx.block g (lt_of_block h3)]; exact h3, h4⟩
theorem OL.append {P : Program} (hcf : ∀ a, (cf a).length = sz) (h1c : ∀ a, ∀ u ∈ cf a, u.oneCell' = true) (hsz : 0 < sz) {t e : TypeId} {z : Value} {bytes : Nat} (ht : P.underlying t = some (.slice e))
    (hinfo : (P.info? e).map (fun i => (i.zero, i.size, i.bytes)) = some (some z, sz, bytes)) (hzs : z.cells.size = sz) (hby : bytes ≤ 1000)
    {w : World} {base : Nat} {v : Value} {l : List α} (h : OL cf sz w base e v l) {A : Option Addr} {m : Nat} {l' : List α} (hs : SL cf sz w A m l') (c : Nat) (hm : l.length + m ≤ 100000000) (hbase : base ≤ w.heap.size) :
    ∃ A' c' w', (Builtin.append_ #[t, t] t #[v, .slice A m c]).run P w = .ok (.slice A' (l.length + m) c') w' ∧ OL cf sz w' base e (.slice A' (l.length + m) c') (l ++ l') ∧ (∀ B, B ≤ base → Below B w w') ∧
      (∀ k, k < w.heap.size → (∀ a, v ≠ .slice (some ⟨k, 0, none⟩) l.length a) → w'.heap[k]? = w.heap[k]?) := by
  obtain ⟨rfl, hs⟩ := hs
  obtain ⟨A', c', w', h1, h2, h3, h4, _⟩ := run_append_src5 (P := P) (t := t) ht hinfo hzs hsz h (A := A) (m := l'.length) (c := c) (news := gcells cf l') (gcells_len hcf l')
    (fun h0 => by
      obtain ⟨b, off, rfl, _, hc⟩ := hs h0
      refine ⟨b, off, rfl, fun j u hu => ?_⟩
      have hj : j < l'.length * sz := by rw [← gcells_len hcf]; exact (List.getElem?_eq_some_iff.1 hu).1
      have hjs : j / sz < l'.length := Nat.div_lt_of_lt_mul (by rw [Nat.mul_comm]; exact hj)
      have e : j = j / sz * sz + j % sz := by rw [Nat.mul_comm]; exact (Nat.div_add_mod j sz).symm
      have hmod : j % sz < sz := Nat.mod_lt _ hsz
      rw [e, gcells_at hcf l' (j / sz) _ (List.getElem?_eq_getElem hjs) (j % sz) hmod] at hu
      have := hc (j / sz) _ (List.getElem?_eq_getElem hjs) (j % sz) u hu
      rw [Nat.add_assoc, ← e] at this
      exact this)
    (gcells_one h1c l') (by simp only [maxLen]; omega) (Nat.le_trans (Nat.mul_le_mul hm hby) (by omega)) hbase
  refine ⟨A', c', w', h1, ?_, h3, h4⟩
  unfold OL
  rw [gcells_append, List.length_append]
  exact h2
theorem SL.one (w : World) (a : α) (cs : Array Value) (hcs : cs.toList = cf a) (t : TypeId) : SL cf sz (w.alloc (.cells cs t)) (some ⟨w.heap.size, 0, none⟩) 1 [a] := by
  refine ⟨rfl, fun _ => ⟨w.heap.size, 0, rfl, by simp, fun i a' hi j u hu => ?_⟩⟩
  obtain rfl : i = 0 := by
    have := (List.getElem?_eq_some_iff.1 hi).1
    simp at this; exact this
  obtain rfl : a = a' := by simpa using hi
  rw [cell_of_row _ w.heap.size _ _ t (0, 0) (heap_alloc_new w _)]
  rw [← hcs] at hu
  simpa using hu
end
end Go.Proofs.YtnpenepdechkjaaGreatDoor

/- The functions on runes, and 'first': the length of the longest head of one kind. -/
namespace Go.Proofs.YtnpenepdechkjaaGreatDoor
open Go Go.RowKit

def lowI (c : Int) : Bool := decide (97 ≤ c) && decide (c ≤ 122)
def digI (c : Int) : Bool := decide (48 ≤ c) && decide (c ≤ 57)
def nlI (c : Int) : Bool := !decide (c = 10)
def BQ (b : Bool) (w : World) (e : Ending) (w' : World) : Prop := e = .returned (.bool b) ∧ w' = w
theorem letter_any (c : Int) (w : World) : Calls Tryz.prog 66 #[.int .i32 c] w (BQ (lowI c) w) := by
  by_cases h1 : 97 ≤ c
  · by_cases h2 : c ≤ 122
    · have hf : lowI c = true := by simp [lowI, h1, h2]
      have HF := Lib.hid hf; clear hf
      go_enter Tryz.func66, Tryz.ntmps66
      go_wp2
      go_ret
      exact ⟨ret_bool (by rw [HF.out]), rfl⟩
    · have hf : lowI c = false := by simp [lowI, h2]
      have HF := Lib.hid hf; clear hf
      go_enter Tryz.func66, Tryz.ntmps66
      go_wp2
      go_ret
      exact ⟨ret_bool (by rw [HF.out]), rfl⟩
  · have hf : lowI c = false := by simp [lowI, h1]
    have HF := Lib.hid hf; clear hf
    go_enter Tryz.func66, Tryz.ntmps66
    go_wp2
    go_ret
    exact ⟨ret_bool (by rw [HF.out]), rfl⟩
theorem digit_any (c : Int) (w : World) : Calls Tryz.prog 68 #[.int .i32 c] w (BQ (digI c) w) := by
  by_cases h1 : 48 ≤ c
  · by_cases h2 : c ≤ 57
    · have hf : digI c = true := by simp [digI, h1, h2]
      have HF := Lib.hid hf; clear hf
      go_enter Tryz.func68, Tryz.ntmps68
      go_wp2
      go_ret
      exact ⟨ret_bool (by rw [HF.out]), rfl⟩
    · have hf : digI c = false := by simp [digI, h2]
      have HF := Lib.hid hf; clear hf
      go_enter Tryz.func68, Tryz.ntmps68
      go_wp2
      go_ret
      exact ⟨ret_bool (by rw [HF.out]), rfl⟩
  · have hf : digI c = false := by simp [digI, h1]
    have HF := Lib.hid hf; clear hf
    go_enter Tryz.func68, Tryz.ntmps68
    go_wp2
    go_ret
    exact ⟨ret_bool (by rw [HF.out]), rfl⟩
theorem nl_any (c : Int) (w : World) : Calls Tryz.prog 65 #[.int .i32 c] w (BQ (nlI c) w) := by
  by_cases h1 : c = 10
  · have hf : nlI c = false := by simp [nlI, h1]
    have HF := Lib.hid hf; clear hf
    subst h1
    go_enter Tryz.func65, Tryz.ntmps65
    go_wp2
    go_ret
    exact ⟨ret_bool (by rw [HF.out]), rfl⟩
  · have hf : nlI c = true := by simp [nlI, h1]
    have HF := Lib.hid hf; clear hf
    have h2 : (c != 10) = true := by simpa using h1
    go_enter Tryz.func65, Tryz.ntmps65
    go_wp2
    go_ret
    exact ⟨ret_bool (by rw [HF.out]), rfl⟩
theorem wc_any (c : Int) (w : World) : Calls Tryz.prog 114 #[.int .i32 c] w (BQ (lowI c || digI c) w) := by
  have HL := Lib.hid (fun X => letter_any c X)
  have HD := Lib.hid (fun X => digit_any c X)
  cases hl : lowI c with
  | true =>
    rw [hl] at HL
    clear hl
    go_enter Tryz.func114, Tryz.ntmps114
    go_wp2_with (first | (go_at_call 66; refine (HL.out _).mono ?_; rintro e w1 ⟨rfl, rfl⟩) | (go_at_call 68; refine (HD.out _).mono ?_; rintro e w1 ⟨rfl, rfl⟩))
    go_ret
    exact ⟨rfl, rfl⟩
  | false =>
    rw [hl] at HL
    clear hl
    cases hd : digI c with
    | true =>
      rw [hd] at HD
      clear hd
      go_enter Tryz.func114, Tryz.ntmps114
      go_wp2_with (first | (go_at_call 66; refine (HL.out _).mono ?_; rintro e w1 ⟨rfl, rfl⟩) | (go_at_call 68; refine (HD.out _).mono ?_; rintro e w1 ⟨rfl, rfl⟩))
      go_ret
      exact ⟨rfl, rfl⟩
    | false =>
      rw [hd] at HD
      clear hd
      go_enter Tryz.func114, Tryz.ntmps114
      go_wp2_with (first | (go_at_call 66; refine (HL.out _).mono ?_; rintro e w1 ⟨rfl, rfl⟩) | (go_at_call 68; refine (HD.out _).mono ?_; rintro e w1 ⟨rfl, rfl⟩))
      go_ret
      exact ⟨rfl, rfl⟩
/-- A test on runes and a test on bytes that say the same: on the runes below 128, and all above alike. -/
structure Kind (q : Int → Bool) (p : UInt8 → Bool) : Prop where
  lo : ∀ c : UInt8, c.toNat < 128 → q c.toNat = p c
  hi : ∀ (r : Nat) (c : UInt8), 128 ≤ r → 128 ≤ c.toNat → q r = p c
theorem kind_low : Kind lowI low :=
  ⟨fun c _ => by rw [lowI, low]; congr 1 <;> (apply decide_eq_decide.2; omega),
   fun r c h1 h2 => by
    rw [show lowI r = false by simp [lowI]; omega, show low c = false by simp [low]; omega]⟩
theorem kind_dig : Kind digI dig :=
  ⟨fun c _ => by rw [digI, dig]; congr 1 <;> (apply decide_eq_decide.2; omega),
   fun r c h1 h2 => by
    rw [show digI r = false by simp [digI]; omega, show dig c = false by simp [dig]; omega]⟩
theorem kind_wch : Kind (fun c => lowI c || digI c) wch :=
  ⟨fun c h => by show (_ || _) = (_ || _); rw [kind_low.lo c h, kind_dig.lo c h],
   fun r c h1 h2 => by show (_ || _) = (_ || _); rw [kind_low.hi r c h1 h2, kind_dig.hi r c h1 h2]⟩
def wchI (c : Int) : Bool := lowI c || digI c
theorem wcI_any (c : Int) (w : World) : Calls Tryz.prog 114 #[.int .i32 c] w (BQ (wchI c) w) := wc_any c w
theorem kind_wchI : Kind wchI wch := kind_wch
def nlB (c : UInt8) : Bool := !decide (c = 10)
theorem kind_nl : Kind nlI nlB :=
  ⟨fun c _ => by
    rw [nlI, nlB]; congr 1; apply decide_eq_decide.2
    constructor
    · intro h; exact UInt8.toNat_inj.1 (by have : (10 : UInt8).toNat = 10 := rfl; omega)
    · intro h; subst h; rfl,
   fun r c h1 h2 => by
    rw [show nlI r = true by simp [nlI]; omega, show nlB c = true by
      simp only [nlB, Bool.not_eq_true', decide_eq_false_iff_not]; intro h; subst h; exact absurd h2 (by decide)]⟩
def twn (p : UInt8 → Bool) (l : List UInt8) : Nat := (l.takeWhile p).length
theorem twn_stop {p : UInt8 → Bool} {c : UInt8} {r : List UInt8} (h : p c = false) : twn p (c :: r) = 0 := by simp [twn, h]
theorem twn_go {p : UInt8 → Bool} {c : UInt8} {r : List UInt8} (h : p c = true) : twn p (c :: r) = 1 + twn p r := by simp [twn, h]; omega
theorem twn_jump (p : UInt8 → Bool) (s : ByteArray) (n : Nat) : ∀ pos, (∀ j, pos ≤ j → j < pos + n → ∃ hj : j < s.size, p (s[j]'hj) = true) → twn p (s.data.toList.drop pos) = n + twn p (s.data.toList.drop (pos + n)) := by
  induction n with
  | zero => intro pos _; simp
  | succ n ih =>
    intro pos h
    obtain ⟨h1, h2⟩ := h pos (Nat.le_refl _) (by omega)
    rw [get_list s pos h1, twn_go h2, ih (pos + 1) (fun j a b => h j (by omega) (by omega)), show pos + 1 + n = pos + (n + 1) by omega]
    omega
def FRel (s : ByteArray) (p : UInt8 → Bool) (w w' : World) : Prop := ∃ pos, pos ≤ s.size ∧ pos + twn p (s.data.toList.drop pos) = twn p s.data.toList ∧ w' = w.alloc (.stringIter s pos)
def IntPost (n : Int) (w : World) (e : Ending) (w' : World) : Prop := e = .returned (.int .i64 n) ∧ Ext w w'
set_option maxHeartbeats 4000000 in
set_option maxRecDepth 100000 in
theorem first47_any (s : ByteArray) (w : World) (hs : s.size ≤ 281474976710656) :
    Calls Tryz.prog 64 #[.string s, .func (.func 114) #[] #[]] w (IntPost (twn wch s.data.toList) w) := by
  have HC := Lib.hid (fun (c : Int) X => (wcI_any c X : Calls Tryz.prog 114 #[.int .i32 c] X (BQ (wchI c) X)))
  have HK := Lib.hid kind_wchI
  go_enter Tryz.func64, Tryz.ntmps64
  go_wp2
  go_loopw [] (fun w' => FRel s wch w w') (fun w' => s.size - w'.iterPos w.heap.size)
  case atStart => exact ⟨0, by omega, by simp, rfl⟩
  case round =>
    obtain ⟨pos, hpos, hrl, rfl⟩ := hrel
    have HR := Lib.hid hrl
    clear hrl
    by_cases hp : pos < s.size
    · have hnx := fun ty => next_any w w.heap.size rfl s pos ty hp
      have hln := get_list s pos hp
      have HLN := Lib.hid hln
      clear hln
      by_cases ha : (s[pos]'hp).toNat < 128
      · have hd := decode_ascii s pos hp ha
        have hq := HK.out.lo _ ha
        obtain ⟨c, hcc⟩ : ∃ c : UInt8, c = s[pos]'hp := ⟨_, rfl⟩
        rw [← hcc] at hd hq HLN ha
        simp only [hd] at hnx
        clear hcc hd
        cases hb : wch c with
        | true =>
          have hcl := HC.out (c.toNat : Int)
          rw [hq, hb] at hcl
          have hfin : pos + 1 + twn wch (s.data.toList.drop (pos + 1)) = twn wch s.data.toList := by
            rw [← HR.out, HLN.out, twn_go hb]; omega
          have hme : s.size - (w.alloc (.stringIter s (pos + 1))).iterPos w.heap.size < s.size - (w.alloc (.stringIter s pos)).iterPos w.heap.size := by
            rw [iterPos_at _ _ rfl, iterPos_at _ _ rfl]; omega
          have HCL := Lib.hid hcl
          have HF := Lib.hid hfin
          have HM := Lib.hid hme
          clear hcl hfin hme hq hb HLN HR
          go_wp2_with (first | (go_at_call 114; refine (HCL.out _).mono ?_; rintro e w1 ⟨rfl, rfl⟩))
          exact ⟨⟨pos + 1, by omega, HF.out, rfl⟩, HM.out⟩
        | false =>
          have hcl := HC.out (c.toNat : Int)
          rw [hq, hb] at hcl
          have hfin : (pos : Int) = (twn wch s.data.toList : Nat) := by
            rw [← HR.out, HLN.out, twn_stop hb]; rfl
          have HCL := Lib.hid hcl
          have HF := Lib.hid hfin
          clear hcl hfin hq hb HLN HR
          go_wp2_with (first | (go_at_call 114; refine (HCL.out _).mono ?_; rintro e w1 ⟨rfl, rfl⟩))
          go_ret
          exact ⟨ret_int HF.out, (Ext.refl _).alloc _⟩
      · have hdh := decode_high s pos hp (by omega)
        have hdc := decode_cont s pos hp (by omega)
        have hqc := fun j (h1 : pos ≤ j) (h2 : j < pos + (Utf8.decode s pos).2) => (hdc j h1 h2).imp fun hj h => (HK.out.hi _ _ hdh.1 h).symm
        obtain ⟨r, hr⟩ : ∃ r, r = Utf8.decode s pos := ⟨_, rfl⟩
        rw [← hr] at hnx hdh hqc
        obtain ⟨r1, r2⟩ := r
        simp only at hdh hnx hqc
        clear hr hdc
        have hlast := (hqc (pos + r2 - 1) (by omega) (by omega)).1
        cases hb : wchI r1 with
        | true =>
          have hcl := HC.out (r1 : Int)
          rw [hb] at hcl
          have hfin : pos + r2 + twn wch (s.data.toList.drop (pos + r2)) = twn wch s.data.toList := by
            rw [← HR.out, twn_jump wch s r2 pos (fun j a b => (hqc j a b).imp fun hj h => by rw [h, hb])]; omega
          have hme : s.size - (w.alloc (.stringIter s (pos + r2))).iterPos w.heap.size < s.size - (w.alloc (.stringIter s pos)).iterPos w.heap.size := by
            rw [iterPos_at _ _ rfl, iterPos_at _ _ rfl]; omega
          have HCL := Lib.hid hcl
          have HF := Lib.hid hfin
          have HM := Lib.hid hme
          have hle : pos + r2 ≤ s.size := by omega
          clear hcl hfin hme hb HLN HR hqc hlast ha
          go_wp2_with (first | (go_at_call 114; refine (HCL.out _).mono ?_; rintro e w1 ⟨rfl, rfl⟩))
          exact ⟨⟨pos + r2, hle, HF.out, rfl⟩, HM.out⟩
        | false =>
          have hcl := HC.out (r1 : Int)
          rw [hb] at hcl
          have hfin : (pos : Int) = (twn wch s.data.toList : Nat) := by
            obtain ⟨_, h⟩ := hqc pos (Nat.le_refl _) (by omega)
            rw [← HR.out, HLN.out, twn_stop (by rw [h, hb])]; rfl
          have HCL := Lib.hid hcl
          have HF := Lib.hid hfin
          clear hcl hfin hb HLN HR hqc hlast ha
          go_wp2_with (first | (go_at_call 114; refine (HCL.out _).mono ?_; rintro e w1 ⟨rfl, rfl⟩))
          go_ret
          exact ⟨ret_int HF.out, (Ext.refl _).alloc _⟩
    · have hnx := fun ty => next_end w w.heap.size rfl s pos ty hp
      have hfin : (s.size : Int) = (twn wch s.data.toList : Nat) := by
        rw [← HR.out, drop_end s pos hp, show twn wch [] = 0 from rfl]; omega
      have HF := Lib.hid hfin
      clear hfin HR
      go_wp2
      go_ret
      exact ⟨ret_int HF.out, (Ext.refl _).alloc _⟩
set_option maxHeartbeats 4000000 in
set_option maxRecDepth 100000 in
theorem first32_any (s : ByteArray) (w : World) (hs : s.size ≤ 281474976710656) :
    Calls Tryz.prog 64 #[.string s, .func (.func 68) #[] #[]] w (IntPost (twn dig s.data.toList) w) := by
  have HC := Lib.hid (fun (c : Int) X => (digit_any c X : Calls Tryz.prog 68 #[.int .i32 c] X (BQ (digI c) X)))
  have HK := Lib.hid kind_dig
  go_enter Tryz.func64, Tryz.ntmps64
  go_wp2
  go_loopw [] (fun w' => FRel s dig w w') (fun w' => s.size - w'.iterPos w.heap.size)
  case atStart => exact ⟨0, by omega, by simp, rfl⟩
  case round =>
    obtain ⟨pos, hpos, hrl, rfl⟩ := hrel
    have HR := Lib.hid hrl
    clear hrl
    by_cases hp : pos < s.size
    · have hnx := fun ty => next_any w w.heap.size rfl s pos ty hp
      have hln := get_list s pos hp
      have HLN := Lib.hid hln
      clear hln
      by_cases ha : (s[pos]'hp).toNat < 128
      · have hd := decode_ascii s pos hp ha
        have hq := HK.out.lo _ ha
        obtain ⟨c, hcc⟩ : ∃ c : UInt8, c = s[pos]'hp := ⟨_, rfl⟩
        rw [← hcc] at hd hq HLN ha
        simp only [hd] at hnx
        clear hcc hd
        cases hb : dig c with
        | true =>
          have hcl := HC.out (c.toNat : Int)
          rw [hq, hb] at hcl
          have hfin : pos + 1 + twn dig (s.data.toList.drop (pos + 1)) = twn dig s.data.toList := by
            rw [← HR.out, HLN.out, twn_go hb]; omega
          have hme : s.size - (w.alloc (.stringIter s (pos + 1))).iterPos w.heap.size < s.size - (w.alloc (.stringIter s pos)).iterPos w.heap.size := by
            rw [iterPos_at _ _ rfl, iterPos_at _ _ rfl]; omega
          have HCL := Lib.hid hcl
          have HF := Lib.hid hfin
          have HM := Lib.hid hme
          clear hcl hfin hme hq hb HLN HR
          go_wp2_with (first | (go_at_call 68; refine (HCL.out _).mono ?_; rintro e w1 ⟨rfl, rfl⟩))
          exact ⟨⟨pos + 1, by omega, HF.out, rfl⟩, HM.out⟩
        | false =>
          have hcl := HC.out (c.toNat : Int)
          rw [hq, hb] at hcl
          have hfin : (pos : Int) = (twn dig s.data.toList : Nat) := by
            rw [← HR.out, HLN.out, twn_stop hb]; rfl
          have HCL := Lib.hid hcl
          have HF := Lib.hid hfin
          clear hcl hfin hq hb HLN HR
          go_wp2_with (first | (go_at_call 68; refine (HCL.out _).mono ?_; rintro e w1 ⟨rfl, rfl⟩))
          go_ret
          exact ⟨ret_int HF.out, (Ext.refl _).alloc _⟩
      · have hdh := decode_high s pos hp (by omega)
        have hdc := decode_cont s pos hp (by omega)
        have hqc := fun j (h1 : pos ≤ j) (h2 : j < pos + (Utf8.decode s pos).2) => (hdc j h1 h2).imp fun hj h => (HK.out.hi _ _ hdh.1 h).symm
        obtain ⟨r, hr⟩ : ∃ r, r = Utf8.decode s pos := ⟨_, rfl⟩
        rw [← hr] at hnx hdh hqc
        obtain ⟨r1, r2⟩ := r
        simp only at hdh hnx hqc
        clear hr hdc
        have hlast := (hqc (pos + r2 - 1) (by omega) (by omega)).1
        cases hb : digI r1 with
        | true =>
          have hcl := HC.out (r1 : Int)
          rw [hb] at hcl
          have hfin : pos + r2 + twn dig (s.data.toList.drop (pos + r2)) = twn dig s.data.toList := by
            rw [← HR.out, twn_jump dig s r2 pos (fun j a b => (hqc j a b).imp fun hj h => by rw [h, hb])]; omega
          have hme : s.size - (w.alloc (.stringIter s (pos + r2))).iterPos w.heap.size < s.size - (w.alloc (.stringIter s pos)).iterPos w.heap.size := by
            rw [iterPos_at _ _ rfl, iterPos_at _ _ rfl]; omega
          have HCL := Lib.hid hcl
          have HF := Lib.hid hfin
          have HM := Lib.hid hme
          have hle : pos + r2 ≤ s.size := by omega
          clear hcl hfin hme hb HLN HR hqc hlast ha
          go_wp2_with (first | (go_at_call 68; refine (HCL.out _).mono ?_; rintro e w1 ⟨rfl, rfl⟩))
          exact ⟨⟨pos + r2, hle, HF.out, rfl⟩, HM.out⟩
        | false =>
          have hcl := HC.out (r1 : Int)
          rw [hb] at hcl
          have hfin : (pos : Int) = (twn dig s.data.toList : Nat) := by
            obtain ⟨_, h⟩ := hqc pos (Nat.le_refl _) (by omega)
            rw [← HR.out, HLN.out, twn_stop (by rw [h, hb])]; rfl
          have HCL := Lib.hid hcl
          have HF := Lib.hid hfin
          clear hcl hfin hb HLN HR hqc hlast ha
          go_wp2_with (first | (go_at_call 68; refine (HCL.out _).mono ?_; rintro e w1 ⟨rfl, rfl⟩))
          go_ret
          exact ⟨ret_int HF.out, (Ext.refl _).alloc _⟩
    · have hnx := fun ty => next_end w w.heap.size rfl s pos ty hp
      have hfin : (s.size : Int) = (twn dig s.data.toList : Nat) := by
        rw [← HR.out, drop_end s pos hp, show twn dig [] = 0 from rfl]; omega
      have HF := Lib.hid hfin
      clear hfin HR
      go_wp2
      go_ret
      exact ⟨ret_int HF.out, (Ext.refl _).alloc _⟩
set_option maxHeartbeats 4000000 in
set_option maxRecDepth 100000 in
theorem first29_any (s : ByteArray) (w : World) (hs : s.size ≤ 281474976710656) :
    Calls Tryz.prog 64 #[.string s, .func (.func 65) #[] #[]] w (IntPost (twn nlB s.data.toList) w) := by
  have HC := Lib.hid (fun (c : Int) X => (nl_any c X : Calls Tryz.prog 65 #[.int .i32 c] X (BQ (nlI c) X)))
  have HK := Lib.hid kind_nl
  go_enter Tryz.func64, Tryz.ntmps64
  go_wp2
  go_loopw [] (fun w' => FRel s nlB w w') (fun w' => s.size - w'.iterPos w.heap.size)
  case atStart => exact ⟨0, by omega, by simp, rfl⟩
  case round =>
    obtain ⟨pos, hpos, hrl, rfl⟩ := hrel
    have HR := Lib.hid hrl
    clear hrl
    by_cases hp : pos < s.size
    · have hnx := fun ty => next_any w w.heap.size rfl s pos ty hp
      have hln := get_list s pos hp
      have HLN := Lib.hid hln
      clear hln
      by_cases ha : (s[pos]'hp).toNat < 128
      · have hd := decode_ascii s pos hp ha
        have hq := HK.out.lo _ ha
        obtain ⟨c, hcc⟩ : ∃ c : UInt8, c = s[pos]'hp := ⟨_, rfl⟩
        rw [← hcc] at hd hq HLN ha
        simp only [hd] at hnx
        clear hcc hd
        cases hb : nlB c with
        | true =>
          have hcl := HC.out (c.toNat : Int)
          rw [hq, hb] at hcl
          have hfin : pos + 1 + twn nlB (s.data.toList.drop (pos + 1)) = twn nlB s.data.toList := by
            rw [← HR.out, HLN.out, twn_go hb]; omega
          have hme : s.size - (w.alloc (.stringIter s (pos + 1))).iterPos w.heap.size < s.size - (w.alloc (.stringIter s pos)).iterPos w.heap.size := by
            rw [iterPos_at _ _ rfl, iterPos_at _ _ rfl]; omega
          have HCL := Lib.hid hcl
          have HF := Lib.hid hfin
          have HM := Lib.hid hme
          clear hcl hfin hme hq hb HLN HR
          go_wp2_with (first | (go_at_call 65; refine (HCL.out _).mono ?_; rintro e w1 ⟨rfl, rfl⟩))
          exact ⟨⟨pos + 1, by omega, HF.out, rfl⟩, HM.out⟩
        | false =>
          have hcl := HC.out (c.toNat : Int)
          rw [hq, hb] at hcl
          have hfin : (pos : Int) = (twn nlB s.data.toList : Nat) := by
            rw [← HR.out, HLN.out, twn_stop hb]; rfl
          have HCL := Lib.hid hcl
          have HF := Lib.hid hfin
          clear hcl hfin hq hb HLN HR
          go_wp2_with (first | (go_at_call 65; refine (HCL.out _).mono ?_; rintro e w1 ⟨rfl, rfl⟩))
          go_ret
          exact ⟨ret_int HF.out, (Ext.refl _).alloc _⟩
      · have hdh := decode_high s pos hp (by omega)
        have hdc := decode_cont s pos hp (by omega)
        have hqc := fun j (h1 : pos ≤ j) (h2 : j < pos + (Utf8.decode s pos).2) => (hdc j h1 h2).imp fun hj h => (HK.out.hi _ _ hdh.1 h).symm
        obtain ⟨r, hr⟩ : ∃ r, r = Utf8.decode s pos := ⟨_, rfl⟩
        rw [← hr] at hnx hdh hqc
        obtain ⟨r1, r2⟩ := r
        simp only at hdh hnx hqc
        clear hr hdc
        have hlast := (hqc (pos + r2 - 1) (by omega) (by omega)).1
        cases hb : nlI r1 with
        | true =>
          have hcl := HC.out (r1 : Int)
          rw [hb] at hcl
          have hfin : pos + r2 + twn nlB (s.data.toList.drop (pos + r2)) = twn nlB s.data.toList := by
            rw [← HR.out, twn_jump nlB s r2 pos (fun j a b => (hqc j a b).imp fun hj h => by rw [h, hb])]; omega
          have hme : s.size - (w.alloc (.stringIter s (pos + r2))).iterPos w.heap.size < s.size - (w.alloc (.stringIter s pos)).iterPos w.heap.size := by
            rw [iterPos_at _ _ rfl, iterPos_at _ _ rfl]; omega
          have HCL := Lib.hid hcl
          have HF := Lib.hid hfin
          have HM := Lib.hid hme
          have hle : pos + r2 ≤ s.size := by omega
          clear hcl hfin hme hb HLN HR hqc hlast ha
          go_wp2_with (first | (go_at_call 65; refine (HCL.out _).mono ?_; rintro e w1 ⟨rfl, rfl⟩))
          exact ⟨⟨pos + r2, hle, HF.out, rfl⟩, HM.out⟩
        | false =>
          have hcl := HC.out (r1 : Int)
          rw [hb] at hcl
          have hfin : (pos : Int) = (twn nlB s.data.toList : Nat) := by
            obtain ⟨_, h⟩ := hqc pos (Nat.le_refl _) (by omega)
            rw [← HR.out, HLN.out, twn_stop (by rw [h, hb])]; rfl
          have HCL := Lib.hid hcl
          have HF := Lib.hid hfin
          clear hcl hfin hb HLN HR hqc hlast ha
          go_wp2_with (first | (go_at_call 65; refine (HCL.out _).mono ?_; rintro e w1 ⟨rfl, rfl⟩))
          go_ret
          exact ⟨ret_int HF.out, (Ext.refl _).alloc _⟩
    · have hnx := fun ty => next_end w w.heap.size rfl s pos ty hp
      have hfin : (s.size : Int) = (twn nlB s.data.toList : Nat) := by
        rw [← HR.out, drop_end s pos hp, show twn nlB [] = 0 from rfl]; omega
      have HF := Lib.hid hfin
      clear hfin HR
      go_wp2
      go_ret
      exact ⟨ret_int HF.out, (Ext.refl _).alloc _⟩
end Go.Proofs.YtnpenepdechkjaaGreatDoor
