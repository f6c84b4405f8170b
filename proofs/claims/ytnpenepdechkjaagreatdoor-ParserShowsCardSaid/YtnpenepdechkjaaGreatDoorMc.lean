/- The contracts of 'word' and 'symbol'. -/
import Derived.Test.YtnpenepdechkjaaGreatDoorMa
import Derived.Test.YtnpenepdechkjaaGreatDoorMb
import Derived.BigQuiet
import Derived.Lib.ConvBytes
import Derived.Lib.AtoiErrMem
import Derived.Lib.IndexMore
import Derived.StillTailTactics
namespace Go.Proofs.YtnpenepdechkjaaGreatDoor
open Go Go.RowKit

def wordT (l : List UInt8) : T1 := if 12 < twn wch l then .err 2 else .ok 1 (twn wch l) 0
def numT (l : List UInt8) : T1 :=
  if 1 < twn dig l ∧ l.head? = some 48 then .err 20
  else if 2147483647 < dval 0 (l.takeWhile dig) then .err 5 else .ok 2 (twn dig l) (dval 0 (l.takeWhile dig))
def dayT (l : List UInt8) : T1 := if dated l then (match dayP ((l.drop 1).take 10) with | some d => .ok 3 11 d | none => .err 5) else .err 20
def symT (l : List UInt8) : T1 := if symN l = 0 then .err 20 else .ok 4 (symN l) 0
theorem tok1_word {c : UInt8} {r : List UInt8} (h : low c = true) : tok1 (c :: r) = wordT (c :: r) := by
  rw [tok1_cons, if_pos h]; rfl
theorem tok1_num {c : UInt8} {r : List UInt8} (h : low c = false) (h1 : dig c = true) : tok1 (c :: r) = numT (c :: r) := by
  rw [tok1_cons, if_neg (by rw [h]; decide), if_pos h1, numT, List.head?_cons]
  simp only [Option.some.injEq, twn]
theorem tok1_day {c : UInt8} {r : List UInt8} (h : low c = false) (h1 : dig c = false) (h2 : c = 64) : tok1 (c :: r) = dayT (c :: r) := by
  rw [tok1_cons, if_neg (by rw [h]; decide), if_neg (by rw [h1]; decide), if_pos h2]; rfl
theorem tok1_sym {c : UInt8} {r : List UInt8} (h : low c = false) (h1 : dig c = false) (h2 : c ≠ 64) : tok1 (c :: r) = symT (c :: r) := by
  rw [tok1_cons, if_neg (by rw [h]; decide), if_neg (by rw [h1]; decide), if_neg h2]; rfl
/-- What a token's reader answers. -/
def TPost (t : T1) (s : ByteArray) (w : World) (e : Ending) (w' : World) : Prop :=
  match t with
  | .err x => e = .returned (.tuple #[.agg #[.int .i64 0, .int .i64 0, .string ⟨#[]⟩, .int .i64 0], .int .i64 x]) ∧ Ext w w'
  | .ok k n v => (∃ S : ByteArray, S.data.toList = s.data.toList.take n ∧ e = .returned (.tuple #[.agg #[.int .i64 k, .int .i64 0, .string S, .int .i64 v], .int .i64 0])) ∧ Ext w w'
theorem extract_take (s : ByteArray) (n : Nat) : (s.extract 0 n).data.toList = s.data.toList.take n := by
  rw [ByteArray.data_extract, Array.toList_extract]; simp [List.extract]
theorem twn_size (p : UInt8 → Bool) (s : ByteArray) : twn p s.data.toList ≤ s.size := by
  rw [← list_size]; exact (List.takeWhile_sublist _).length_le
theorem tpost_err {t : T1} {x y : Int} {s : ByteArray} {w w' : World} (h : t = .err x) (hy : y = x) (hx : Ext w w') :
    TPost t s w (.returned (.tuple #[.agg #[.int .i64 0, .int .i64 0, .string ⟨#[]⟩, .int .i64 0], .int .i64 y])) w' := by
  subst h; subst hy; exact ⟨rfl, hx⟩
theorem tpost_ok {t : T1} {k v k' v' : Int} {n : Nat} {s S : ByteArray} {w w' : World} (h : t = .ok k n v) (hk : k' = k) (hv : v' = v) (hS : S.data.toList = s.data.toList.take n) (hx : Ext w w') :
    TPost t s w (.returned (.tuple #[.agg #[.int .i64 k', .int .i64 0, .string S, .int .i64 v'], .int .i64 0])) w' := by
  subst h; subst hk; subst hv; exact ⟨⟨S, hS, rfl⟩, hx⟩
/-- A token in a block of its own, not frozen. -/
structure TBox (W : World) (b : Nat) (k a : Int) (S : ByteArray) (v : Int) : Prop where
  lt : b < W.heap.size
  c0 : W.cell? ⟨b, 0, none⟩ = some (.int .i64 k)
  c1 : W.cell? ⟨b, 1, none⟩ = some (.int .i64 a)
  c2 : W.cell? ⟨b, 2, none⟩ = some (.string S)
  c3 : W.cell? ⟨b, 3, none⟩ = some (.int .i64 v)
  f0 : W.frozen? ⟨b, 0, none⟩ = false
  f1 : W.frozen? ⟨b, 1, none⟩ = false
  f2 : W.frozen? ⟨b, 2, none⟩ = false
  f3 : W.frozen? ⟨b, 3, none⟩ = false
theorem TBox.ext {W W' : World} {b : Nat} {k a v : Int} {S : ByteArray} (h : TBox W b k a S v) (hx : Ext W W') : TBox W' b k a S v := by
  obtain ⟨q, p⟩ := hx.cells
  exact ⟨Nat.lt_of_lt_of_le h.lt hx.lt, by rw [q _ _ h.lt]; exact h.c0, by rw [q _ _ h.lt]; exact h.c1, by rw [q _ _ h.lt]; exact h.c2, by rw [q _ _ h.lt]; exact h.c3,
    by rw [p _ _ h.lt]; exact h.f0, by rw [p _ _ h.lt]; exact h.f1, by rw [p _ _ h.lt]; exact h.f2, by rw [p _ _ h.lt]; exact h.f3⟩
theorem TBox.new (W : World) (k a v : Int) (S : ByteArray) (t : TypeId) : TBox (W.alloc (.cells #[.int .i64 k, .int .i64 a, .string S, .int .i64 v] t)) W.heap.size k a S v :=
  ⟨by simp, by go_simp, by go_simp, by go_simp, by go_simp, by go_simp, by go_simp, by go_simp, by go_simp⟩
theorem Ext.store4 {w W : World} {b : Nat} (h : Ext w W) (hb : w.heap.size ≤ b) (u0 u1 u2 u3 : Value) :
    Ext w ((((W.setCell ⟨b, 0, none⟩ u0).setCell ⟨b, 1, none⟩ u1).setCell ⟨b, 2, none⟩ u2).setCell ⟨b, 3, none⟩ u3) :=
  (((h.setCell (p := ⟨b, 0, none⟩) hb u0).setCell (p := ⟨b, 1, none⟩) hb u1).setCell (p := ⟨b, 2, none⟩) hb u2).setCell (p := ⟨b, 3, none⟩) hb u3
set_option maxHeartbeats 4000000 in
set_option maxRecDepth 100000 in
theorem word_any (s : ByteArray) (w : World) (hs : s.size ≤ 281474976710656) : Calls Tryz.prog 67 #[.string s] w (TPost (wordT s.data.toList) s w) := by
  have HF := Lib.hid (fun X => first47_any s X hs)
  have hz := twn_size wch s
  obtain ⟨n, hn⟩ : ∃ n, n = twn wch s.data.toList := ⟨_, rfl⟩
  rw [← hn] at HF hz
  have HN := Lib.hid hn
  clear hn
  by_cases h12 : 12 < n
  · have h12' : (12 : Int) < (n : Int) := by omega
    have hT : wordT s.data.toList = .err 2 := by rw [wordT, ← HN.out, if_pos h12]
    have HT := Lib.hid hT
    clear hT HN
    go_enter Tryz.func67, Tryz.ntmps67
    go_wp2_with (first | (go_at_call 64; refine (HF.out _).mono ?_; rintro e w1 ⟨rfl, hx⟩; have q := (TBox.new w 0 0 0 ⟨#[]⟩ 46).ext hx; have hx0 := ((Ext.refl w).alloc _).trans hx; obtain ⟨q0, q1, q2, q3, q4, q5, q6, q7, q8⟩ := q))
    refine bodyPost_ret (v := .tuple #[.agg #[.int .i64 0, .int .i64 0, .string ⟨#[]⟩, .int .i64 0], .int .i64 2]) (by simp [results, Tryz.results67, go_sem, *]) rfl ?_
    exact tpost_err HT.out rfl (hx0.store4 (Nat.le_refl _) _ _ _ _)
  · have h12' : ¬ (12 : Int) < (n : Int) := by omega
    have hT : wordT s.data.toList = .ok 1 n 0 := by rw [wordT, ← HN.out, if_neg h12]
    have HT := Lib.hid hT
    clear hT HN
    go_enter Tryz.func67, Tryz.ntmps67
    go_wp2_with (first | (go_at_call 64; refine (HF.out _).mono ?_; rintro e w1 ⟨rfl, hx⟩; have q := (TBox.new w 0 0 0 ⟨#[]⟩ 46).ext hx; have hx0 := ((Ext.refl w).alloc _).trans hx; obtain ⟨q0, q1, q2, q3, q4, q5, q6, q7, q8⟩ := q))
    refine bodyPost_ret (v := .tuple #[.agg #[.int .i64 1, .int .i64 0, .string (s.extract 0 n), .int .i64 0], .int .i64 0]) (by simp [results, Tryz.results67, go_sem, *]) rfl ?_
    exact tpost_ok HT.out rfl rfl (extract_take _ _) (hx0.store4 (Nat.le_refl _) _ _ _ _)
end Go.Proofs.YtnpenepdechkjaaGreatDoor

/- The contract of 'symbol'. -/
namespace Go.Proofs.YtnpenepdechkjaaGreatDoor
open Go Go.RowKit

theorem index_mem : ∀ (l : List UInt8) (c : UInt8), (0 ≤ Lib.indexByte l c) ↔ c ∈ l
  | [], c => by simp [Lib.indexByte]
  | b :: l, c => by
    have ih := index_mem l c
    have hg := Lib.indexByte_ge l c
    rw [Lib.indexByte]
    by_cases h : b = c
    · simp [h]
    · have h' : (b == c) = false := by simpa using h
      have h2 : ¬ c = b := fun e => h e.symm
      simp only [h', List.mem_cons, h2, false_or]
      by_cases h3 : Lib.indexByte l c = -1
      · simp only [h3, ← ih]; decide
      · have : (Lib.indexByte l c == -1) = false := by simpa using h3
        simp only [this, ← ih]
        simp
        omega
theorem prefix2 (c a : UInt8) (r : List UInt8) : Lib.hasPrefix (c :: r) [a, 61] = true ↔ c = a ∧ r.head? = some 61 := by
  cases r with
  | nil => simp [Lib.hasPrefix]
  | cons d r => simp [Lib.hasPrefix]; constructor <;> (rintro ⟨h1, h2⟩; exact ⟨h1.symm, h2.symm⟩)
theorem prefix_two {s : ByteArray} {a : UInt8} (h : Lib.hasPrefix s.data.toList [a, 61] = true) : 2 ≤ s.size := by
  rw [← list_size]
  have : ([a, 61] : List UInt8).length ≤ s.data.toList.length := (List.isPrefixOf_iff_prefix.1 h).length_le
  exact this
theorem sym_two {l : List UInt8} {a : UInt8} (ha : a = 60 ∨ a = 33 ∨ a = 62) (h : Lib.hasPrefix l [a, 61] = true) : symT l = .ok 4 2 0 := by
  cases l with
  | nil => simp [Lib.hasPrefix] at h
  | cons c r =>
    obtain ⟨rfl, h2⟩ := (prefix2 c a r).1 h
    have e : symN (c :: r) = 2 := by rw [symN_cons, if_pos ⟨ha, h2⟩]
    rw [symT, e]
    rfl
theorem sym_no {c : UInt8} {r : List UInt8} (h1 : Lib.hasPrefix (c :: r) [60, 61] = false) (h2 : Lib.hasPrefix (c :: r) [33, 61] = false) (h3 : Lib.hasPrefix (c :: r) [62, 61] = false) :
    ¬ ((c = 60 ∨ c = 33 ∨ c = 62) ∧ r.head? = some 61) := by
  rintro ⟨h | h | h, h4⟩ <;> subst h
  · exact absurd ((prefix2 _ _ _).2 ⟨rfl, h4⟩) (by rw [h1]; decide)
  · exact absurd ((prefix2 _ _ _).2 ⟨rfl, h4⟩) (by rw [h2]; decide)
  · exact absurd ((prefix2 _ _ _).2 ⟨rfl, h4⟩) (by rw [h3]; decide)
theorem idx_any (s : ByteArray) (h0 : 0 < s.size) (v : Int) (hv : v = Lib.indexByte [123, 125, 40, 41, 59, 44, 43, 45, 42, 60, 61, 62] s[0]) (X : World) :
    Calls Tryz.prog 112 #[.string ⟨#[123, 125, 40, 41, 59, 44, 43, 45, 42, 60, 61, 62]⟩, .int .u8 (s[0].toNat : Int)] X fun e X' => e = .returned (.int .i64 v) ∧ X' = X := by
  refine (Tryz.strings_IndexByte _ _ _).mono ?_
  rintro e X' ⟨rfl, rfl⟩
  refine ⟨?_, rfl⟩
  rw [hv]
  simp
def symL : List UInt8 := [123, 125, 40, 41, 59, 44, 43, 45, 42, 60, 61, 62]
theorem sym_one {c : UInt8} {r : List UInt8} (h : ¬ ((c = 60 ∨ c = 33 ∨ c = 62) ∧ r.head? = some 61)) (hm : c ∈ symL) : symT (c :: r) = .ok 4 1 0 := by
  have e : symN (c :: r) = 1 := by rw [symN_cons, if_neg h, if_pos (by simpa [symL] using hm)]
  rw [symT, e]
  rfl
theorem sym_none {c : UInt8} {r : List UInt8} (h : ¬ ((c = 60 ∨ c = 33 ∨ c = 62) ∧ r.head? = some 61)) (hm : c ∉ symL) : symT (c :: r) = .err 20 := by
  have e : symN (c :: r) = 0 := by rw [symN_cons, if_neg h, if_neg (fun h => hm (by simpa [symL] using h))]
  rw [symT, e]
  rfl
set_option maxHeartbeats 4000000 in
set_option maxRecDepth 100000 in
theorem sym_any (s : ByteArray) (w : World) (hs : s.size ≤ 281474976710656) (h0 : 0 < s.size) : Calls Tryz.prog 62 #[.string s] w (TPost (symT s.data.toList) s w) := by
  have hl := get_list s 0 h0
  rw [List.drop_zero] at hl
  cases h1 : Lib.hasPrefix s.data.toList [60, 61] with
  | true =>
    have HT := Lib.hid (sym_two (.inl rfl) h1)
    have hsz : 2 ≤ s.size := prefix_two h1
    clear hl
    go_enter Tryz.func62, Tryz.ntmps62
    go_wp2_with (first | (go_at_call 111; refine (Tryz.strings_HasPrefix _ _ _).mono ?_; rintro e w1 ⟨rfl, rfl⟩))
    refine bodyPost_ret (v := .tuple #[.agg #[.int .i64 4, .int .i64 0, .string (s.extract 0 2), .int .i64 0], .int .i64 0]) (by simp [results, Tryz.results62, go_sem, *]) rfl ?_
    exact tpost_ok HT.out rfl rfl (extract_take _ _) ((Ext.refl w).alloc _)
  | false =>
    cases h2 : Lib.hasPrefix s.data.toList [33, 61] with
    | true =>
      have HT := Lib.hid (sym_two (.inr (.inl rfl)) h2)
      have hsz : 2 ≤ s.size := prefix_two h2
      clear hl
      go_enter Tryz.func62, Tryz.ntmps62
      go_wp2_with (first | (go_at_call 111; refine (Tryz.strings_HasPrefix _ _ _).mono ?_; rintro e w1 ⟨rfl, rfl⟩))
      refine bodyPost_ret (v := .tuple #[.agg #[.int .i64 4, .int .i64 0, .string (s.extract 0 2), .int .i64 0], .int .i64 0]) (by simp [results, Tryz.results62, go_sem, *]) rfl ?_
      exact tpost_ok HT.out rfl rfl (extract_take _ _) ((Ext.refl w).alloc _)
    | false =>
      cases h3 : Lib.hasPrefix s.data.toList [62, 61] with
      | true =>
        have HT := Lib.hid (sym_two (.inr (.inr rfl)) h3)
        have hsz : 2 ≤ s.size := prefix_two h3
        clear hl
        go_enter Tryz.func62, Tryz.ntmps62
        go_wp2_with (first | (go_at_call 111; refine (Tryz.strings_HasPrefix _ _ _).mono ?_; rintro e w1 ⟨rfl, rfl⟩))
        refine bodyPost_ret (v := .tuple #[.agg #[.int .i64 4, .int .i64 0, .string (s.extract 0 2), .int .i64 0], .int .i64 0]) (by simp [results, Tryz.results62, go_sem, *]) rfl ?_
        exact tpost_ok HT.out rfl rfl (extract_take _ _) ((Ext.refl w).alloc _)
      | false =>
        have hno := sym_no (by rw [← hl]; exact h1) (by rw [← hl]; exact h2) (by rw [← hl]; exact h3)
        by_cases hm : s[0] ∈ symL
        · have HT := Lib.hid (show symT s.data.toList = .ok 4 1 0 by rw [hl]; exact sym_one hno hm)
          obtain ⟨v, hv⟩ : ∃ v, v = Lib.indexByte [123, 125, 40, 41, 59, 44, 43, 45, 42, 60, 61, 62] s[0] := ⟨_, rfl⟩
          have hv0 : 0 ≤ v := by rw [hv]; exact (index_mem _ _).2 hm
          have HI := Lib.hid (idx_any s h0 v hv)
          clear hl hno hm hv
          go_enter Tryz.func62, Tryz.ntmps62
          go_wp2_with (first | (go_at_call 111; refine (Tryz.strings_HasPrefix _ _ _).mono ?_; rintro e w1 ⟨rfl, rfl⟩) | (go_at_call 112; refine (HI.out _).mono ?_; rintro e w1 ⟨rfl, rfl⟩))
          refine bodyPost_ret (v := .tuple #[.agg #[.int .i64 4, .int .i64 0, .string (s.extract 0 1), .int .i64 0], .int .i64 0]) (by simp [results, Tryz.results62, go_sem, *]) rfl ?_
          exact tpost_ok HT.out rfl rfl (extract_take _ _) ((Ext.refl w).alloc _)
        · have HT := Lib.hid (show symT s.data.toList = .err 20 by rw [hl]; exact sym_none hno hm)
          obtain ⟨v, hv⟩ : ∃ v, v = Lib.indexByte [123, 125, 40, 41, 59, 44, 43, 45, 42, 60, 61, 62] s[0] := ⟨_, rfl⟩
          have hv0 : ¬ 0 ≤ v := by rw [hv]; exact fun h => hm ((index_mem _ _).1 h)
          have HI := Lib.hid (idx_any s h0 v hv)
          clear hl hno hm hv
          go_enter Tryz.func62, Tryz.ntmps62
          go_wp2_with (first | (go_at_call 111; refine (Tryz.strings_HasPrefix _ _ _).mono ?_; rintro e w1 ⟨rfl, rfl⟩) | (go_at_call 112; refine (HI.out _).mono ?_; rintro e w1 ⟨rfl, rfl⟩))
          refine bodyPost_ret (v := .tuple #[.agg #[.int .i64 0, .int .i64 0, .string ⟨#[]⟩, .int .i64 0], .int .i64 20]) (by simp [results, Tryz.results62, go_sem, *]) rfl ?_
          exact tpost_err HT.out rfl ((Ext.refl w).alloc _)
end Go.Proofs.YtnpenepdechkjaaGreatDoor

/- The contract of 'number'. -/
namespace Go.Proofs.YtnpenepdechkjaaGreatDoor
open Go Go.RowKit

theorem dval_ge (l : List UInt8) : ∀ a, a ≤ dval a l := by
  induction l with
  | nil => intro a; exact Nat.le_refl _
  | cons c r ih => intro a; rw [dval_cons]; have := ih (10 * a + (c.toNat - 48)); omega
theorem parse_digits (l : List UInt8) : ∀ a, a < 18446744073709551616 → l.all dig = true →
    (dval a l < 18446744073709551616 → Lib.parseUint10 a l = .ok (dval a l)) ∧ (18446744073709551616 ≤ dval a l → Lib.parseUint10 a l = .range) := by
  induction l with
  | nil => intro a ha _; exact ⟨fun _ => rfl, fun h => by rw [dval_nil] at h; omega⟩
  | cons c r ih =>
    intro a ha hd
    rw [List.all_cons, Bool.and_eq_true] at hd
    have hc := dig_iff.1 hd.1
    have hg := dval_ge r (10 * a + (c.toNat - 48))
    rw [dval_cons, Lib.parseUint10, if_pos hc, show a * 10 = 10 * a by omega]
    constructor
    · intro h
      rw [if_neg (by omega), if_neg (by omega)]
      exact (ih _ (by omega) hd.2).1 h
    · intro h
      by_cases h1 : 1844674407370955162 ≤ a
      · rw [if_pos h1]
      · rw [if_neg h1]
        by_cases h2 : 18446744073709551616 ≤ 10 * a + (c.toNat - 48)
        · rw [if_pos h2]
        · rw [if_neg h2]; exact (ih _ (by omega) hd.2).2 h
theorem atoi_digits {l : List UInt8} (h0 : l ≠ []) (hd : l.all dig = true) :
    (dval 0 l < 9223372036854775808 → Lib.atoiAll l = .ok (dval 0 l : Nat)) ∧ (9223372036854775808 ≤ dval 0 l → Lib.atoiAll l = .range) := by
  cases l with
  | nil => exact absurd rfl h0
  | cons c r =>
    have hc : 48 ≤ c.toNat ∧ c.toNat ≤ 57 := by rw [List.all_cons, Bool.and_eq_true] at hd; exact dig_iff.1 hd.1
    have hp := parse_digits (c :: r) 0 (by omega) hd
    have e : Lib.parseMag (if c.toNat = 43 ∨ c.toNat = 45 then r else c :: r) = Lib.parseUint10 0 (c :: r) := by
      rw [if_neg (by omega), Lib.parseMag, if_neg (by simp)]
    constructor
    · intro h
      unfold Lib.atoiAll
      simp only [e, hp.1 (by omega)]
      rw [if_neg (by omega), if_neg (by omega), if_neg (by omega)]
    · intro h
      unfold Lib.atoiAll
      by_cases h2 : dval 0 (c :: r) < 18446744073709551616
      · simp only [e, hp.1 h2]
        rw [if_pos ⟨by omega, h⟩]
      · simp only [e, hp.2 (by omega)]
theorem take_twn (p : UInt8 → Bool) (l : List UInt8) : l.take (twn p l) = l.takeWhile p := by
  induction l with
  | nil => rfl
  | cons c r ih =>
    cases h : p c with
    | true => rw [twn_go h, List.takeWhile_cons, h, Nat.add_comm, List.take_succ_cons, ih]; rfl
    | false => rw [twn_stop h, List.takeWhile_cons, h]; rfl
theorem tw_all (p : UInt8 → Bool) (l : List UInt8) : (l.takeWhile p).all p = true := by
  induction l with
  | nil => rfl
  | cons c r ih =>
    cases h : p c with
    | true => rw [List.takeWhile_cons, h]; simp [h, ih]
    | false => rw [List.takeWhile_cons, h]; rfl
/-- The listed variable that number parsing may hand back, in every later world. -/
def EnvR (w : World) : Prop := ∃ tp p, ∀ W, Ext w W → W.var? Tryz.prog "strconv.ErrRange" = some #[.iface tp p]
theorem EnvR.ext {w w' : World} (h : EnvR w) (hx : Ext w w') : EnvR w' := h.imp fun _ h => h.imp fun _ h W hW => h W (hx.trans hW)
theorem atoi_ok_any (s : ByteArray) (v : Int) (X : World) (hs : s.size ≤ 281474976710656) (h : Lib.atoiAll s.data.toList = .ok v) :
    Calls Tryz.prog 115 #[.string s] X fun e X' => e = .returned (.tuple #[.int .i64 v, .nilIface]) ∧ Ext X X' := by
  refine (Tryz.strconv_Atoi_ok s (by omega) v h X).mono ?_
  rintro e X' ⟨rfl, h1 | ⟨t, h1⟩⟩
  · subst h1; exact ⟨rfl, Ext.refl _⟩
  · subst h1; exact ⟨rfl, Lib.bytesWorld_below X 5 t⟩
theorem atoi_bad_any (s : ByteArray) (X : World) (hs : s.size ≤ 281474976710656) (hE : EnvR X) (h : Lib.atoiAll s.data.toList = .range) :
    Calls Tryz.prog 115 #[.string s] X fun e X' => ∃ (v : Int) (N : Nat), e = .returned (.tuple #[.int .i64 v, .iface 152 (.pointer (some ⟨N, 0, none⟩))]) ∧ Ext X X' := by
  obtain ⟨tp, p, hv⟩ := hE
  refine (Tryz.strconv_Atoi_range_var s hs h tp p X (hv X (Ext.refl _))).mono ?_
  rintro e X' ⟨N, rfl, _, _, hb⟩
  exact ⟨_, N, rfl, hb⟩
theorem extract_get (s : ByteArray) (n : Nat) (h : 0 < (s.extract 0 n).size) : (s.extract 0 n)[0]'h = s[0]'(by rw [ByteArray.size_extract] at h; omega) := by
  simp [ByteArray.getElem_extract]
set_option maxHeartbeats 4000000 in
set_option maxRecDepth 100000 in
theorem num_any (s : ByteArray) (w : World) (hs : s.size ≤ 281474976710656) (h0 : 0 < s.size) (hd : dig s[0] = true) (hE : EnvR w) : Calls Tryz.prog 69 #[.string s] w (TPost (numT s.data.toList) s w) := by
  have hl := get_list s 0 h0
  rw [List.drop_zero] at hl
  have HF := Lib.hid (fun X => first32_any s X hs)
  have hz := twn_size dig s
  have hz1 : 1 ≤ twn dig s.data.toList := by rw [hl, twn_go hd]; omega
  have htk := take_twn dig s.data.toList
  have hall := tw_all dig s.data.toList
  obtain ⟨n, hn⟩ : ∃ n, n = twn dig s.data.toList := ⟨_, rfl⟩
  rw [← hn] at HF hz hz1 htk
  have HN := Lib.hid hn
  have HL := Lib.hid hl
  have HTK := Lib.hid htk
  have HAL := Lib.hid hall
  clear hn hl htk hall hd
  by_cases hA : 1 < n ∧ s[0] = 48
  · obtain ⟨h1, h2⟩ := hA
    have h1' : (1 : Int) < (n : Int) := by omega
    have HT := Lib.hid (show numT s.data.toList = .err 20 by rw [numT, ← HN.out, if_pos ⟨h1, by rw [HL.out, h2]; rfl⟩])
    have hq : ∀ h : 0 < (s.extract 0 n).size, ((((s.extract 0 n)[0]'h).toNat : Int) == 48) = true := fun h => by rw [extract_get, h2]; rfl
    clear HN HL HTK HAL h2
    go_enter Tryz.func69, Tryz.ntmps69
    go_wp2_with (first | (go_at_call 64; refine (HF.out _).mono ?_; rintro e w1 ⟨rfl, hx⟩; have q := (TBox.new w 0 0 0 ⟨#[]⟩ 46).ext hx; have hx0 := ((Ext.refl w).alloc _).trans hx; obtain ⟨q0, q1, q2, q3, q4, q5, q6, q7, q8⟩ := q))
    refine bodyPost_ret (v := .tuple #[.agg #[.int .i64 0, .int .i64 0, .string ⟨#[]⟩, .int .i64 0], .int .i64 20]) (by simp [results, Tryz.results69, go_sem, *]) rfl ?_
    exact tpost_err HT.out rfl (hx0.store4 (Nat.le_refl _) _ _ _ _)
  · by_cases h1 : 1 < n
    · have h1' : (1 : Int) < (n : Int) := by omega
      have h48 : s[0] ≠ 48 := fun e => hA ⟨h1, e⟩
      have hq : ∀ h : 0 < (s.extract 0 n).size, ((((s.extract 0 n)[0]'h).toNat : Int) == 48) = false := fun h => by
        rw [extract_get, beq_eq_false_iff_ne]; intro e; exact h48 (UInt8.toNat_inj.1 (by have : (48 : UInt8).toNat = 48 := rfl; omega))
      clear h48
      have hne : s.data.toList.takeWhile dig ≠ [] := by rw [← HTK.out, HL.out]; cases n with | zero => omega | succ n => simp
      have hat := atoi_digits hne HAL.out
      have het : (s.extract 0 n).data.toList = s.data.toList.takeWhile dig := by rw [extract_take, HTK.out]
      have hsz : (s.extract 0 n).size ≤ 281474976710656 := by rw [ByteArray.size_extract]; omega
      obtain ⟨v, hv⟩ : ∃ v, v = dval 0 (s.data.toList.takeWhile dig) := ⟨_, rfl⟩
      rw [← hv] at hat
      have hT0 : numT s.data.toList = if 2147483647 < v then .err 5 else .ok 2 n v := by
        rw [numT, ← HN.out, if_neg (by rw [HL.out, List.head?_cons]; simpa using hA), hv]
      have HT0 := Lib.hid hT0
      by_cases hb : v < 9223372036854775808
      · have HI := Lib.hid (fun X (_ : Ext w X) => atoi_ok_any (s.extract 0 n) v X hsz (by rw [het]; exact hat.1 hb))
        by_cases hm : 2147483647 < v
        · have hm' : (2147483647 : Int) < (v : Int) := by omega
          have HT := Lib.hid (show numT s.data.toList = .err 5 by rw [HT0.out, if_pos hm])
          clear hT0 HT0 het hat hne hv HN HL HTK HAL hA
          go_enter Tryz.func69, Tryz.ntmps69
          go_wp2_with (first | (go_at_call 64; refine (HF.out _).mono ?_; rintro e w1 ⟨rfl, hx⟩; have q := (TBox.new w 0 0 0 ⟨#[]⟩ 46).ext hx; have hx0 := ((Ext.refl w).alloc _).trans hx; obtain ⟨q0, q1, q2, q3, q4, q5, q6, q7, q8⟩ := q) | (go_at_call 115; refine (HI.out _ (((Ext.refl w).alloc _).trans hx)).mono ?_; rintro e w2 ⟨rfl, hx2⟩; have q' := ((TBox.new w 0 0 0 ⟨#[]⟩ 46).ext hx).ext hx2; have hx3 := (((Ext.refl w).alloc _).trans hx).trans hx2; obtain ⟨r0, r1, r2, r3, r4, r5, r6, r7, r8⟩ := q'))
          refine bodyPost_ret (v := .tuple #[.agg #[.int .i64 0, .int .i64 0, .string ⟨#[]⟩, .int .i64 0], .int .i64 5]) (by simp [results, Tryz.results69, go_sem, *]) rfl ?_
          exact tpost_err HT.out rfl (hx3.store4 (Nat.le_refl _) _ _ _ _)
        · have hm' : ¬ (2147483647 : Int) < (v : Int) := by omega
          have HT := Lib.hid (show numT s.data.toList = .ok 2 n v by rw [HT0.out, if_neg hm])
          clear hT0 HT0 het hat hne hv HN HL HTK HAL hA
          go_enter Tryz.func69, Tryz.ntmps69
          go_wp2_with (first | (go_at_call 64; refine (HF.out _).mono ?_; rintro e w1 ⟨rfl, hx⟩; have q := (TBox.new w 0 0 0 ⟨#[]⟩ 46).ext hx; have hx0 := ((Ext.refl w).alloc _).trans hx; obtain ⟨q0, q1, q2, q3, q4, q5, q6, q7, q8⟩ := q) | (go_at_call 115; refine (HI.out _ (((Ext.refl w).alloc _).trans hx)).mono ?_; rintro e w2 ⟨rfl, hx2⟩; have q' := ((TBox.new w 0 0 0 ⟨#[]⟩ 46).ext hx).ext hx2; have hx3 := (((Ext.refl w).alloc _).trans hx).trans hx2; obtain ⟨r0, r1, r2, r3, r4, r5, r6, r7, r8⟩ := q'))
          refine bodyPost_ret (v := .tuple #[.agg #[.int .i64 2, .int .i64 0, .string (s.extract 0 n), .int .i64 v], .int .i64 0]) (by simp [results, Tryz.results69, go_sem, *]) rfl ?_
          exact tpost_ok HT.out rfl rfl (extract_take _ _) (hx3.store4 (Nat.le_refl _) _ _ _ _)
      · have HI := Lib.hid (fun X (hX : Ext w X) => atoi_bad_any (s.extract 0 n) X hsz (hE.ext hX) (by rw [het]; exact hat.2 (by omega)))
        have HT := Lib.hid (show numT s.data.toList = .err 5 by rw [HT0.out, if_pos (by omega)])
        clear hT0 HT0 het hat hne hv HN HL HTK HAL hA hb
        go_enter Tryz.func69, Tryz.ntmps69
        go_wp2_with (first | (go_at_call 64; refine (HF.out _).mono ?_; rintro e w1 ⟨rfl, hx⟩; have q := (TBox.new w 0 0 0 ⟨#[]⟩ 46).ext hx; have hx0 := ((Ext.refl w).alloc _).trans hx; obtain ⟨q0, q1, q2, q3, q4, q5, q6, q7, q8⟩ := q) | (go_at_call 115; refine (HI.out _ (((Ext.refl w).alloc _).trans hx)).mono ?_; rintro e w2 ⟨v2, N, rfl, hx2⟩; have q' := ((TBox.new w 0 0 0 ⟨#[]⟩ 46).ext hx).ext hx2; have hx3 := (((Ext.refl w).alloc _).trans hx).trans hx2; obtain ⟨r0, r1, r2, r3, r4, r5, r6, r7, r8⟩ := q'))
        refine bodyPost_ret (v := .tuple #[.agg #[.int .i64 0, .int .i64 0, .string ⟨#[]⟩, .int .i64 0], .int .i64 5]) (by simp [results, Tryz.results69, go_sem, *]) rfl ?_
        exact tpost_err HT.out rfl (hx3.store4 (Nat.le_refl _) _ _ _ _)
    · obtain rfl : n = 1 := by omega
      have h1' : ¬ (1 : Int) < ((1 : Nat) : Int) := by decide
      have hne : s.data.toList.takeWhile dig ≠ [] := by rw [← HTK.out, HL.out]; simp
      have hat := atoi_digits hne HAL.out
      have het : (s.extract 0 1).data.toList = s.data.toList.takeWhile dig := by rw [extract_take, HTK.out]
      have hsz : (s.extract 0 1).size ≤ 281474976710656 := by rw [ByteArray.size_extract]; omega
      obtain ⟨v, hv⟩ : ∃ v, v = dval 0 (s.data.toList.takeWhile dig) := ⟨_, rfl⟩
      rw [← hv] at hat
      have hT0 : numT s.data.toList = if 2147483647 < v then .err 5 else .ok 2 1 v := by
        rw [numT, ← HN.out, if_neg (by rw [HL.out, List.head?_cons]; simp), hv]
      have HT0 := Lib.hid hT0
      by_cases hb : v < 9223372036854775808
      · have HI := Lib.hid (fun X (_ : Ext w X) => atoi_ok_any (s.extract 0 1) v X hsz (by rw [het]; exact hat.1 hb))
        by_cases hm : 2147483647 < v
        · have hm' : (2147483647 : Int) < (v : Int) := by omega
          have HT := Lib.hid (show numT s.data.toList = .err 5 by rw [HT0.out, if_pos hm])
          clear hT0 HT0 het hat hne hv HN HL HTK HAL hA
          go_enter Tryz.func69, Tryz.ntmps69
          go_wp2_with (first | (go_at_call 64; refine (HF.out _).mono ?_; rintro e w1 ⟨rfl, hx⟩; have q := (TBox.new w 0 0 0 ⟨#[]⟩ 46).ext hx; have hx0 := ((Ext.refl w).alloc _).trans hx; obtain ⟨q0, q1, q2, q3, q4, q5, q6, q7, q8⟩ := q) | (go_at_call 115; refine (HI.out _ (((Ext.refl w).alloc _).trans hx)).mono ?_; rintro e w2 ⟨rfl, hx2⟩; have q' := ((TBox.new w 0 0 0 ⟨#[]⟩ 46).ext hx).ext hx2; have hx3 := (((Ext.refl w).alloc _).trans hx).trans hx2; obtain ⟨r0, r1, r2, r3, r4, r5, r6, r7, r8⟩ := q'))
          refine bodyPost_ret (v := .tuple #[.agg #[.int .i64 0, .int .i64 0, .string ⟨#[]⟩, .int .i64 0], .int .i64 5]) (by simp [results, Tryz.results69, go_sem, *]) rfl ?_
          exact tpost_err HT.out rfl (hx3.store4 (Nat.le_refl _) _ _ _ _)
        · have hm' : ¬ (2147483647 : Int) < (v : Int) := by omega
          have HT := Lib.hid (show numT s.data.toList = .ok 2 1 v by rw [HT0.out, if_neg hm])
          clear hT0 HT0 het hat hne hv HN HL HTK HAL hA
          go_enter Tryz.func69, Tryz.ntmps69
          go_wp2_with (first | (go_at_call 64; refine (HF.out _).mono ?_; rintro e w1 ⟨rfl, hx⟩; have q := (TBox.new w 0 0 0 ⟨#[]⟩ 46).ext hx; have hx0 := ((Ext.refl w).alloc _).trans hx; obtain ⟨q0, q1, q2, q3, q4, q5, q6, q7, q8⟩ := q) | (go_at_call 115; refine (HI.out _ (((Ext.refl w).alloc _).trans hx)).mono ?_; rintro e w2 ⟨rfl, hx2⟩; have q' := ((TBox.new w 0 0 0 ⟨#[]⟩ 46).ext hx).ext hx2; have hx3 := (((Ext.refl w).alloc _).trans hx).trans hx2; obtain ⟨r0, r1, r2, r3, r4, r5, r6, r7, r8⟩ := q'))
          refine bodyPost_ret (v := .tuple #[.agg #[.int .i64 2, .int .i64 0, .string (s.extract 0 1), .int .i64 v], .int .i64 0]) (by simp [results, Tryz.results69, go_sem, *]) rfl ?_
          exact tpost_ok HT.out rfl rfl (extract_take _ _) (hx3.store4 (Nat.le_refl _) _ _ _ _)
      · have HI := Lib.hid (fun X (hX : Ext w X) => atoi_bad_any (s.extract 0 1) X hsz (hE.ext hX) (by rw [het]; exact hat.2 (by omega)))
        have HT := Lib.hid (show numT s.data.toList = .err 5 by rw [HT0.out, if_pos (by omega)])
        clear hT0 HT0 het hat hne hv HN HL HTK HAL hA hb
        go_enter Tryz.func69, Tryz.ntmps69
        go_wp2_with (first | (go_at_call 64; refine (HF.out _).mono ?_; rintro e w1 ⟨rfl, hx⟩; have q := (TBox.new w 0 0 0 ⟨#[]⟩ 46).ext hx; have hx0 := ((Ext.refl w).alloc _).trans hx; obtain ⟨q0, q1, q2, q3, q4, q5, q6, q7, q8⟩ := q) | (go_at_call 115; refine (HI.out _ (((Ext.refl w).alloc _).trans hx)).mono ?_; rintro e w2 ⟨v2, N, rfl, hx2⟩; have q' := ((TBox.new w 0 0 0 ⟨#[]⟩ 46).ext hx).ext hx2; have hx3 := (((Ext.refl w).alloc _).trans hx).trans hx2; obtain ⟨r0, r1, r2, r3, r4, r5, r6, r7, r8⟩ := q'))
        refine bodyPost_ret (v := .tuple #[.agg #[.int .i64 0, .int .i64 0, .string ⟨#[]⟩, .int .i64 0], .int .i64 5]) (by simp [results, Tryz.results69, go_sem, *]) rfl ?_
        exact tpost_err HT.out rfl (hx3.store4 (Nat.le_refl _) _ _ _ _)
end Go.Proofs.YtnpenepdechkjaaGreatDoor

/- The contracts of package date's Leap, Length, Check, number, Day, on dates of small numbers. -/
namespace Go.Proofs.YtnpenepdechkjaaGreatDoor
open Go Go.RowKit

theorem leap_of {y : Nat} {b : Bool} (h : b = true ↔ (y % 4 = 0 ∧ (y % 100 ≠ 0 ∨ y % 400 = 0))) : b = leap y := by
  rw [Bool.eq_iff_iff, h, leap]
  simp only [Bool.and_eq_true, Bool.or_eq_true, Bool.not_eq_true', decide_eq_true_eq, decide_eq_false_iff_not, ne_eq]
set_option maxHeartbeats 4000000 in
set_option maxRecDepth 100000 in
theorem leap_any (y : Nat) (w : World) (hy : y ≤ 100000) : Calls Tryz.prog 196 #[.int .i64 y] w (BQ (leap y) w) := by
  go_enter Tryz.func196, Tryz.ntmps196
  go_wp2
  all_goals go_ret
  all_goals refine ⟨ret_bool (leap_of ?_), rfl⟩
  all_goals simp
  all_goals omega
/-- The lengths of the months, in every later world. -/
def EnvL (w : World) : Prop := ∀ W, Ext w W → W.var? Tryz.prog "rollbook/date.lengths" = some (Array.map (fun i => Value.int .i64 i) #[0, 31, 28, 31, 30, 31, 30, 31, 31, 30, 31, 30, 31])
set_option maxHeartbeats 4000000 in
set_option maxRecDepth 100000 in
theorem length_any (y m : Nat) (w : World) (hy : y ≤ 100000) (hm : m ≤ 1000) (hL : EnvL w) : Calls Tryz.prog 190 #[.int .i64 y, .int .i64 m] w (fun e w' => e = .returned (.int .i64 (mlen y m)) ∧ w' = w) := by
  have HL := Lib.hid (fun X => leap_any y X hy)
  have hv := hL w (Ext.refl w)
  have hg : Tryz.prog.globalNamed "rollbook/date.lengths" = some 4 := by kernel_rfl
  have hcs := World.var?_cell hg hv
  by_cases h2 : m = 2
  · subst h2
    cases hl : leap y with
    | true =>
      have HE := Lib.hid (show mlen y 2 = 29 by simp [mlen, hl])
      rw [hl] at HL
      clear hl hcs hv
      go_enter Tryz.func190, Tryz.ntmps190
      go_wp2_with (first | (go_at_call 196; refine (HL.out _).mono ?_; rintro e w1 ⟨rfl, rfl⟩))
      go_ret
      exact ⟨ret_int (by rw [HE.out]; rfl), rfl⟩
    | false =>
      have HE := Lib.hid (show mlen y 2 = 28 by simp [mlen, hl])
      rw [hl] at HL
      have hc2 := hcs 2
      simp at hc2
      clear hl hcs hv
      go_enter Tryz.func190, Tryz.ntmps190
      go_wp2_with (first | (go_at_call 196; refine (HL.out _).mono ?_; rintro e w1 ⟨rfl, rfl⟩))
      go_ret
      exact ⟨ret_int (by rw [HE.out]; rfl), rfl⟩
  · have hc := hcs m
    clear hcs hv
    by_cases h1 : 1 ≤ m
    · by_cases h12 : m ≤ 12
      · obtain ⟨v, hc2, hE⟩ : ∃ v : Int, w.cell? ⟨4, m, none⟩ = some (.int .i64 v) ∧ v = (mlen y m : Nat) := by
          rcases (by omega : m = 1 ∨ m = 3 ∨ m = 4 ∨ m = 5 ∨ m = 6 ∨ m = 7 ∨ m = 8 ∨ m = 9 ∨ m = 10 ∨ m = 11 ∨ m = 12) with rfl | rfl | rfl | rfl | rfl | rfl | rfl | rfl | rfl | rfl | rfl <;> exact ⟨_, by rw [hc]; simp [mlen], rfl⟩
        have HE := Lib.hid hE
        have h2' : ((m : Int) == 2) = false := by rw [beq_eq_false_iff_ne]; omega
        have h1' : ¬ (m : Int) < 1 := by omega
        have h12' : ¬ (12 : Int) < (m : Int) := by omega
        have h13 : m < 13 := by omega
        clear hc hE h2
        go_enter Tryz.func190, Tryz.ntmps190
        go_wp2_with (first | (go_at_call 196; refine (HL.out _).mono ?_; rintro e w1 ⟨rfl, rfl⟩))
        go_ret
        exact ⟨ret_int HE.out, rfl⟩
      · have HE := Lib.hid (show mlen y m = 0 by rw [mlen, if_neg h2, if_neg (by omega), if_neg (by omega)])
        have h12' : (12 : Int) < (m : Int) := by omega
        have h1' : ¬ (m : Int) < 1 := by omega
        clear hc
        go_enter Tryz.func190, Tryz.ntmps190
        go_wp2_with (first | (go_at_call 196; refine (HL.out _).mono ?_; rintro e w1 ⟨rfl, rfl⟩))
        go_ret
        exact ⟨ret_int (by rw [HE.out]; rfl), rfl⟩
    · obtain rfl : m = 0 := by omega
      clear hc
      go_enter Tryz.func190, Tryz.ntmps190
      go_wp2_with (first | (go_at_call 196; refine (HL.out _).mono ?_; rintro e w1 ⟨rfl, rfl⟩))
      go_ret
      exact ⟨ret_int (by simp [mlen]), rfl⟩
theorem EnvL.ext {w w' : World} (h : EnvL w) (hx : Ext w w') : EnvL w' := fun W hW => h W (hx.trans hW)
def chkE (y m d : Nat) : Int := if dateB y m d then 0 else 5
theorem chk_no {y m d : Nat} (h : y < 1 ∨ 9999 < y ∨ m < 1 ∨ 12 < m ∨ d < 1 ∨ mlen y m < d) : chkE y m d = 5 := by
  rw [chkE, if_neg]
  simp only [dateB, Bool.and_eq_true, decide_eq_true_eq]
  omega
theorem chk_yes {y m d : Nat} (h1 : 1 ≤ y) (h2 : y ≤ 9999) (h3 : 1 ≤ m) (h4 : m ≤ 12) (h5 : 1 ≤ d) (h6 : d ≤ mlen y m) : chkE y m d = 0 := by
  rw [chkE, if_pos]
  simp only [dateB, Bool.and_eq_true, decide_eq_true_eq]
  omega
theorem mlen_le (y m : Nat) : mlen y m ≤ 31 := by
  rw [mlen]; repeat (first | omega | split)
set_option maxHeartbeats 4000000 in
set_option maxRecDepth 100000 in
theorem check_any (y m d : Nat) (w : World) (hy : y ≤ 100000) (hm : m ≤ 1000) (hd : d ≤ 1000) (hL : EnvL w) : Calls Tryz.prog 176 #[.agg #[.int .i64 y, .int .i64 m, .int .i64 d]] w (IntPost (chkE y m d) w) := by
  have HL := Lib.hid (fun X (hX : Ext w X) => length_any y m X hy hm (hL.ext hX))
  by_cases h1 : y < 1
  · have HE := Lib.hid (chk_no (y := y) (m := m) (d := d) (.inl h1))
    have g1 : decide ((y : Int) < 1) = true := decide_eq_true (by omega)
    go_enter Tryz.func176, Tryz.ntmps176
    go_wp2
    go_quiet (fail)
    go_wp2
    go_ret
    exact ⟨ret_int HE.out.symm, ((Ext.refl _).alloc _).drewN _⟩
  · have g1 : decide ((y : Int) < 1) = false := decide_eq_false (by omega)
    by_cases h2 : 9999 < y
    · have HE := Lib.hid (chk_no (y := y) (m := m) (d := d) (.inr (.inl h2)))
      have g2 : decide ((9999 : Int) < (y : Int)) = true := decide_eq_true (by omega)
      go_enter Tryz.func176, Tryz.ntmps176
      go_wp2
      go_quiet (fail)
      go_wp2
      go_ret
      exact ⟨ret_int HE.out.symm, ((Ext.refl _).alloc _).drewN _⟩
    · have g2 : decide ((9999 : Int) < (y : Int)) = false := decide_eq_false (by omega)
      by_cases h3 : m < 1
      · have HE := Lib.hid (chk_no (y := y) (m := m) (d := d) (.inr (.inr (.inl h3))))
        have g3 : decide ((m : Int) < 1) = true := decide_eq_true (by omega)
        go_enter Tryz.func176, Tryz.ntmps176
        go_wp2
        go_quiet (fail)
        go_wp2
        go_ret
        exact ⟨ret_int HE.out.symm, ((Ext.refl _).alloc _).drewN _⟩
      · have g3 : decide ((m : Int) < 1) = false := decide_eq_false (by omega)
        by_cases h4 : 12 < m
        · have HE := Lib.hid (chk_no (y := y) (m := m) (d := d) (.inr (.inr (.inr (.inl h4)))))
          have g4 : decide ((12 : Int) < (m : Int)) = true := decide_eq_true (by omega)
          go_enter Tryz.func176, Tryz.ntmps176
          go_wp2
          go_quiet (fail)
          go_wp2
          go_ret
          exact ⟨ret_int HE.out.symm, ((Ext.refl _).alloc _).drewN _⟩
        · have g4 : decide ((12 : Int) < (m : Int)) = false := decide_eq_false (by omega)
          by_cases h5 : d < 1
          · have HE := Lib.hid (chk_no (y := y) (m := m) (d := d) (.inr (.inr (.inr (.inr (.inl h5))))))
            have g5 : decide ((d : Int) < 1) = true := decide_eq_true (by omega)
            go_enter Tryz.func176, Tryz.ntmps176
            go_wp2
            go_quiet (fail)
            go_wp2
            go_ret
            exact ⟨ret_int HE.out.symm, ((Ext.refl _).alloc _).drewN _⟩
          · have g5 : decide ((d : Int) < 1) = false := decide_eq_false (by omega)
            by_cases h6 : mlen y m < d
            · have HE := Lib.hid (chk_no (y := y) (m := m) (d := d) (.inr (.inr (.inr (.inr (.inr (h6)))))))
              have g6 : decide (((mlen y m : Nat) : Int) < (d : Int)) = true := decide_eq_true (by omega)
              obtain ⟨L, hLn⟩ : ∃ L, L = mlen y m := ⟨_, rfl⟩
              rw [← hLn] at HL g6 h6
              clear hLn
              go_enter Tryz.func176, Tryz.ntmps176
              go_wp2
              go_quiet (first | (go_at_call 190; refine Calls.quiet_of_same ((HL.out _ (by repeat (first | exact Ext.refl _ | apply Ext.alloc | apply Ext.drewN | apply Ext.drew))).mono fun _ _ h => h)))
              go_wp2
              go_ret
              exact ⟨ret_int HE.out.symm, ((Ext.refl _).alloc _).drewN _⟩
            · have HE := Lib.hid (chk_yes (y := y) (m := m) (d := d) (by omega) (by omega) (by omega) (by omega) (by omega) (by omega))
              have g6 : decide (((mlen y m : Nat) : Int) < (d : Int)) = false := decide_eq_false (by omega)
              obtain ⟨L, hLn⟩ : ∃ L, L = mlen y m := ⟨_, rfl⟩
              rw [← hLn] at HL g6 h6
              clear hLn
              go_enter Tryz.func176, Tryz.ntmps176
              go_wp2
              go_quiet (first | (go_at_call 190; refine Calls.quiet_of_same ((HL.out _ (by repeat (first | exact Ext.refl _ | apply Ext.alloc | apply Ext.drewN | apply Ext.drew))).mono fun _ _ h => h)))
              go_wp2
              go_ret
              exact ⟨ret_int HE.out.symm, ((Ext.refl _).alloc _).drewN _⟩
end Go.Proofs.YtnpenepdechkjaaGreatDoor

/- The contracts of date.number and date.Day. -/
namespace Go.Proofs.YtnpenepdechkjaaGreatDoor
open Go Go.RowKit

/-- The code's own formula; the year begins in March. -/
def marN (y m d : Nat) : Int := 365 * (y : Int) + y / 4 - y / 100 + y / 400 + (153 * m + 2) / 5 + d - 307
set_option maxHeartbeats 4000000 in
set_option maxRecDepth 100000 in
theorem number_any (y m d : Nat) (w : World) (hy : 1 ≤ y) (hy2 : y ≤ 9999) (hm1 : 1 ≤ m) (hm : m ≤ 12) (hd : d ≤ 31) :
    Calls Tryz.prog 177 #[.agg #[.int .i64 y, .int .i64 m, .int .i64 d]] w (fun e w' => e = .returned (.int .i64 (if m < 3 then marN (y - 1) (m + 9) d else marN y (m - 3) d)) ∧ Ext w w') := by
  by_cases h3 : m < 3
  · have h3' : (m : Int) - 3 < 0 := by omega
    rw [if_pos h3]
    obtain ⟨y, rfl⟩ : ∃ k, y = k + 1 := ⟨y - 1, by omega⟩
    go_enter Tryz.func177, Tryz.ntmps177
    go_wp2
    go_quiet (fail)
    go_wp2
    go_ret
    exact ⟨ret_int (by rw [marN]; omega), ((Ext.refl _).alloc _).drewN _⟩
  · have h3' : ¬ (m : Int) - 3 < 0 := by omega
    rw [if_neg h3]
    go_enter Tryz.func177, Tryz.ntmps177
    go_wp2
    go_quiet (fail)
    go_wp2
    go_ret
    exact ⟨ret_int (by rw [marN]; omega), ((Ext.refl _).alloc _).drewN _⟩
theorem leap_true {y : Nat} (h : leap y = true) : y % 4 = 0 ∧ (y % 100 ≠ 0 ∨ y % 400 = 0) := by
  simpa only [leap, Bool.and_eq_true, Bool.or_eq_true, Bool.not_eq_true', decide_eq_true_eq, decide_eq_false_iff_not, ne_eq] using h
theorem leap_false {y : Nat} (h : leap y = false) : ¬ (y % 4 = 0 ∧ (y % 100 ≠ 0 ∨ y % 400 = 0)) := by
  intro h2
  have : leap y = true := by
    simpa only [leap, Bool.and_eq_true, Bool.or_eq_true, Bool.not_eq_true', decide_eq_true_eq, decide_eq_false_iff_not, ne_eq] using h2
  rw [h] at this; cases this
def cumN : Nat → Nat
  | 3 => 59 | 4 => 90 | 5 => 120 | 6 => 151 | 7 => 181 | 8 => 212 | 9 => 243 | 10 => 273 | 11 => 304 | 12 => 334 | _ => 0
theorem mdays_of (y m : Nat) (h1 : 3 ≤ m) (h2 : m ≤ 12) : mdays y m = cumN m + (if leap y then 1 else 0) := by
  rcases (by omega : m = 3 ∨ m = 4 ∨ m = 5 ∨ m = 6 ∨ m = 7 ∨ m = 8 ∨ m = 9 ∨ m = 10 ∨ m = 11 ∨ m = 12) with rfl | rfl | rfl | rfl | rfl | rfl | rfl | rfl | rfl | rfl <;>
    (cases hl : leap y <;> simp [mdays, mlen, hl, cumN])
theorem cum_mar (m : Nat) (h1 : 3 ≤ m) (h2 : m ≤ 12) : (153 * (m - 3) + 2) / 5 + 59 = cumN m := by
  rcases (by omega : m = 3 ∨ m = 4 ∨ m = 5 ∨ m = 6 ∨ m = 7 ∨ m = 8 ∨ m = 9 ∨ m = 10 ∨ m = 11 ∨ m = 12) with rfl | rfl | rfl | rfl | rfl | rfl | rfl | rfl | rfl | rfl <;> rfl
/-- The code's formula is the number of the day. -/
theorem dayNo_mar {y m d : Nat} (hy : 1 ≤ y) (hm1 : 1 ≤ m) (hm : m ≤ 12) (hd : 1 ≤ d) : (if m < 3 then marN (y - 1) (m + 9) d else marN y (m - 3) d) = (dayNo y m d : Nat) := by
  by_cases h3 : m < 3
  · rw [if_pos h3]
    rcases (by omega : m = 1 ∨ m = 2) with rfl | rfl
    · rw [marN, dayNo, show mdays y 1 = 0 from rfl]; omega
    · rw [marN, dayNo, show mdays y 2 = 31 by simp [mdays, mlen]]; omega
  · rw [if_neg h3, marN, dayNo, mdays_of y m (by omega) hm]
    have hc := cum_mar m (by omega) hm
    have hc2 : (153 * (m - 3) + 2) / 5 = cumN m - 59 ∧ 59 ≤ cumN m := by omega
    have hc3 : ((153 * ((m - 3 : Nat) : Int) + 2) / 5) = (cumN m : Int) - 59 := by omega
    rw [hc3]
    cases hl : leap y with
    | true => have := leap_true hl; simp only [if_true]; omega
    | false => have := leap_false hl; simp only [Bool.false_eq_true, if_false]; omega
end Go.Proofs.YtnpenepdechkjaaGreatDoor

/- The contracts of date.Day and of the closure of date.Parse. -/
namespace Go.Proofs.YtnpenepdechkjaaGreatDoor
open Go Go.RowKit

def DayPost (y m d : Nat) (w : World) (e : Ending) (w' : World) : Prop :=
  e = .returned (.tuple #[.int .i64 (if dateB y m d then dayNo y m d else 0 : Nat), .int .i64 (chkE y m d)]) ∧ Ext w w'
theorem date_iff {y m d : Nat} (h : dateB y m d = true) : 1 ≤ y ∧ y ≤ 9999 ∧ 1 ≤ m ∧ m ≤ 12 ∧ 1 ≤ d ∧ d ≤ 31 := by
  simp only [dateB, Bool.and_eq_true, decide_eq_true_eq] at h
  have := mlen_le y m
  omega
set_option maxHeartbeats 4000000 in
set_option maxRecDepth 100000 in
theorem day_any (y m d : Nat) (w : World) (hy : y ≤ 100000) (hm : m ≤ 1000) (hd : d ≤ 1000) (hL : EnvL w) : Calls Tryz.prog 155 #[.agg #[.int .i64 y, .int .i64 m, .int .i64 d]] w (DayPost y m d w) := by
  have HC := Lib.hid (fun X (hX : Ext w X) => check_any y m d X hy hm hd (hL.ext hX))
  cases hb : dateB y m d with
  | true =>
    have hi := date_iff hb
    have HN := Lib.hid (fun X => number_any y m d X hi.1 hi.2.1 hi.2.2.1 hi.2.2.2.1 hi.2.2.2.2.2)
    rw [dayNo_mar hi.1 hi.2.2.1 hi.2.2.2.1 hi.2.2.2.2.1] at HN
    have hce : chkE y m d = 0 := by rw [chkE, hb]; rfl
    have HE := Lib.hid hce
    have HB := Lib.hid hb
    rw [hce] at HC
    clear hi hb hce
    go_enter Tryz.func155, Tryz.ntmps155
    go_wp2_with (first | (go_at_call 176; refine (HC.out _ ((Ext.refl _).alloc _)).mono ?_; rintro e w1 ⟨rfl, hx⟩; have hc1 := hx.cells.1 w.heap.size; have hx0 := ((Ext.refl w).alloc _).trans hx) | (go_at_call 177; refine (HN.out _).mono ?_; rintro e w2 ⟨rfl, hx2⟩))
    refine bodyPost_ret (v := .tuple #[.int .i64 (dayNo y m d : Nat), .int .i64 0]) (by simp [results, Tryz.results155, go_sem, *]) rfl ?_
    exact ⟨by rw [HE.out, HB.out]; rfl, hx0.trans hx2⟩
  | false =>
    have hce : chkE y m d = 5 := by rw [chkE, hb]; rfl
    have HE := Lib.hid hce
    have HB := Lib.hid hb
    rw [hce] at HC
    clear hb hce
    go_enter Tryz.func155, Tryz.ntmps155
    go_wp2_with (first | (go_at_call 176; refine (HC.out _ ((Ext.refl _).alloc _)).mono ?_; rintro e w1 ⟨rfl, hx⟩; have hc1 := hx.cells.1 w.heap.size; have hx0 := ((Ext.refl w).alloc _).trans hx))
    refine bodyPost_ret (v := .tuple #[.int .i64 0, .int .i64 5]) (by simp [results, Tryz.results155, go_sem, *]) rfl ?_
    exact ⟨by rw [HE.out, HB.out]; rfl, hx0⟩
/-- The captured variables of date.Parse: the text, and the error. -/
structure PBox (W : World) (b c : Nat) (s : ByteArray) : Prop where
  text : W.cell? ⟨b, 0, none⟩ = some (.string s)
  err : W.cell? ⟨c, 0, none⟩ = some (.int .i64 0)
  lb : b < W.heap.size
  lc : c < W.heap.size
theorem PBox.ext {W W' : World} {b c : Nat} {s : ByteArray} (h : PBox W b c s) (hx : Ext W W') : PBox W' b c s := by
  obtain ⟨q, _⟩ := hx.cells
  exact ⟨by rw [q _ _ h.lb]; exact h.text, by rw [q _ _ h.lc]; exact h.err, Nat.lt_of_lt_of_le h.lb hx.lt, Nat.lt_of_lt_of_le h.lc hx.lt⟩
def PartRel (L : List UInt8) (n i : Value) : Prop := ∃ j, j ≤ L.length ∧ i = .int .i64 j ∧ n = .int .i64 (dval 0 (L.take j) : Nat)
def partM (k : Value) : Nat := match k with | .int _ z => 4 - z.toNat | _ => 0
theorem dval_take {L : List UInt8} {j : Nat} (h : j < L.length) : dval 0 (L.take (j + 1)) = 10 * dval 0 (L.take j) + ((L.getD j 0).toNat - 48) := by
  have e : L.take (j + 1) = L.take j ++ [L.getD j 0] := by rw [List.take_add_one]; simp [List.getD, h]
  rw [e, dval_snoc]
theorem dval_lt (L : List UInt8) : ∀ n, L.length ≤ n → L.all dig = true → dval 0 L < 10 ^ n := by
  intro n
  induction n generalizing L with
  | zero => intro h _; rw [List.length_eq_zero_iff.1 (Nat.le_zero.1 h)]; decide
  | succ n ih =>
    intro h hd
    rcases List.eq_nil_or_concat L with rfl | ⟨r, c, rfl⟩
    · rw [dval_nil]; exact Nat.pow_pos (by decide)
    · rw [List.concat_eq_append] at h hd ⊢
      rw [dval_snoc]
      rw [List.all_append, Bool.and_eq_true] at hd
      have h1 := ih r (by rw [List.length_append] at h; simp at h; omega) hd.1
      have hc : 48 ≤ c.toNat ∧ c.toNat ≤ 57 := by have := hd.2; simp at this; exact dig_iff.1 this
      rw [Nat.pow_succ]; omega
theorem extract_list (s : ByteArray) (x y : Nat) : (s.extract x y).data.toList = (s.data.toList.drop x).take (y - x) := by
  rw [ByteArray.data_extract, Array.toList_extract]
set_option maxHeartbeats 4000000 in
set_option maxRecDepth 100000 in
theorem part_any (W : World) (b c : Nat) (s : ByteArray) (x y : Nat) (hB : PBox W b c s) (hxy : x ≤ y) (hy : y ≤ s.size) (hyx : y - x ≤ 4) (hd : ((s.data.toList.drop x).take (y - x)).all dig = true) :
    Calls Tryz.prog 154 #[.int .i64 x, .int .i64 y, .pointer (some ⟨b, 0, none⟩), .pointer (some ⟨c, 0, none⟩)] W (IntPost (dval 0 ((s.data.toList.drop x).take (y - x)) : Nat) W) := by
  have c1 := hB.text
  have hcv := Lib.run_convert_string_bytes (P := Tryz.prog) W 9 75 5 (s.extract x y) (u := .string) Tryz.underlying9 Tryz.underlying75 Tryz.underlying5
  have hcl : ∀ j, j < (s.extract x y).size → (Lib.bytesWorld W 5 (s.extract x y)).cell? ⟨W.heap.size, j, none⟩ = some (.int .u8 (((s.data.toList.drop x).take (y - x)).getD j 0).toNat) := fun j hj => by
    rw [Lib.bytesWorld_cell _ _ _ _ hj, extract_list]
  have hx : Ext W (Lib.bytesWorld W 5 (s.extract x y)) := Lib.bytesWorld_below _ _ _
  obtain ⟨L, hL⟩ : ∃ L, L = (s.data.toList.drop x).take (y - x) := ⟨_, rfl⟩
  have hlen : L.length = y - x := by rw [hL, List.length_take, List.length_drop, list_size]; omega
  have hsz : (s.extract x y).size = L.length := by rw [← list_size, extract_list, ← hL]
  rw [← hL] at hd hcl ⊢
  clear hL
  obtain ⟨V, hV⟩ : ∃ V, V = Lib.bytesWorld W 5 (s.extract x y) := ⟨_, rfl⟩
  rw [← hV] at hcv hcl hx
  rw [hsz] at hcv hcl
  obtain ⟨C, hC⟩ : ∃ C, C = grownCap W L.length 0 5 := ⟨_, rfl⟩
  rw [← hC] at hcv
  clear hV hC hsz
  have HD := Lib.hid hd
  have HX := Lib.hid hx
  have HCL := Lib.hid hcl
  clear hcl hd hx
  have hl4 : L.length ≤ 4 := by omega
  clear hlen
  go_enter Tryz.func154, Tryz.ntmps154
  go_wp2
  go_loop [7, 16] (fun n i => PartRel L n i) (fun _ i => partM i)
  case atStart => exact ⟨0, by omega, rfl, rfl⟩
  case round =>
    obtain ⟨j, hj, rfl, rfl⟩ := hrel
    by_cases hjl : j < L.length
    · have hcell := HCL.out j hjl
      have hdg := HD.out
      have hst := dval_take hjl
      have hk : 48 ≤ (L.getD j 0).toNat ∧ (L.getD j 0).toNat ≤ 57 := by
        have hm : L.getD j 0 ∈ L := by simp [List.getD, hjl]
        exact dig_iff.1 (List.all_eq_true.1 hdg _ hm)
      have hdv : dval 0 (L.take j) < 10 ^ 4 := dval_lt _ 4 (by rw [List.length_take]; omega) (by
        rw [List.all_eq_true] at hdg ⊢; exact fun a ha => hdg a (List.mem_of_mem_take ha))
      obtain ⟨k, hkk⟩ : ∃ k, k = (L.getD j 0).toNat := ⟨_, rfl⟩
      obtain ⟨u, huu⟩ : ∃ u, u = dval 0 (L.take j) := ⟨_, rfl⟩
      rw [← hkk] at hcell hk hst
      rw [← huu] at hdv hst ⊢
      have hu4 : u < 10000 := hdv
      have hk1 : ¬ (k : Int) < 48 := by omega
      have hk2 : ¬ (57 : Int) < (k : Int) := by omega
      have HST := Lib.hid hst
      clear hst hdv hdg hkk huu
      go_wp2
      exact ⟨⟨j + 1, by omega, rfl, by rw [HST.out]; congr 1; omega⟩, by simp [partM]; omega⟩
    · obtain rfl : j = L.length := by omega
      go_wp2
      go_ret
      exact ⟨ret_int rfl, HX.out⟩
end Go.Proofs.YtnpenepdechkjaaGreatDoor

/- The contract of date.Parse, at texts of ten bytes that are digits and two dashes. -/
namespace Go.Proofs.YtnpenepdechkjaaGreatDoor
open Go Go.RowKit

/-- Ten bytes of which the fifth and the eighth are dashes, the others digits. -/
structure Ten (s : ByteArray) : Prop where
  size : s.size = 10
  d4 : ((s.data.toList.drop 0).take (4 - 0)).all dig = true
  d5 : ((s.data.toList.drop 5).take (7 - 5)).all dig = true
  d8 : ((s.data.toList.drop 8).take (10 - 8)).all dig = true
  m4 : s.data.toList[4]? = some 45
  m7 : s.data.toList[7]? = some 45
def yOf (s : ByteArray) : Nat := dval 0 ((s.data.toList.drop 0).take (4 - 0))
def mOf (s : ByteArray) : Nat := dval 0 ((s.data.toList.drop 5).take (7 - 5))
def dOf (s : ByteArray) : Nat := dval 0 ((s.data.toList.drop 8).take (10 - 8))
theorem ten_get (s : ByteArray) (i : Nat) (h : s.data.toList[i]? = some 45) (hi : i < s.size) : ((s[i]'hi).toNat : Int) = 45 := by
  have h' : i < s.data.toList.length := by rw [list_size]; exact hi
  rw [List.getElem?_eq_getElem h'] at h
  injection h with h
  have : s[i]'hi = 45 := h
  rw [this]; rfl
set_option maxHeartbeats 4000000 in
set_option maxRecDepth 100000 in
theorem parse_any (s : ByteArray) (w : World) (hT : Ten s) (hL : EnvL w) : Calls Tryz.prog 116 #[.string s] w (DayPost (yOf s) (mOf s) (dOf s) w) := by
  have hs := hT.size
  have hq4 : ∀ h : 4 < s.size, (((s[4]'h).toNat : Int) != 45) = false := fun h => by rw [ten_get s 4 hT.m4 h]; decide
  have hq7 : ∀ h : 7 < s.size, (((s[7]'h).toNat : Int) != 45) = false := fun h => by rw [ten_get s 7 hT.m7 h]; decide
  have hmf : ∀ (fn : Fn) (first cap : Array Value) (w : World), (Instr.makeFunc fn first cap).run Tryz.prog w = .ok (.func fn first cap) w := fun _ _ _ _ => rfl
  have hy : yOf s < 10000 := dval_lt _ 4 (by rw [List.length_take]; omega) hT.d4
  have hm : mOf s < 100 := dval_lt _ 2 (by rw [List.length_take]; omega) hT.d5
  have hd : dOf s < 100 := dval_lt _ 2 (by rw [List.length_take]; omega) hT.d8
  have H0 := Lib.hid (fun W (hB : PBox W w.heap.size (w.heap.size + 1) s) => part_any W w.heap.size (w.heap.size + 1) s 0 4 hB (by omega) (by omega) (by omega) hT.d4)
  have H5 := Lib.hid (fun W (hB : PBox W w.heap.size (w.heap.size + 1) s) => part_any W w.heap.size (w.heap.size + 1) s 5 7 hB (by omega) (by omega) (by omega) hT.d5)
  have H8 := Lib.hid (fun W (hB : PBox W w.heap.size (w.heap.size + 1) s) => part_any W w.heap.size (w.heap.size + 1) s 8 10 hB (by omega) (by omega) (by omega) hT.d8)
  have HD := Lib.hid (fun X (hX : Ext w X) => day_any (yOf s) (mOf s) (dOf s) X (by omega) (by omega) (by omega) (hL.ext hX))
  have hB0 : PBox ((w.alloc (.cells #[.string s] 9)).alloc (.cells #[.int .i64 0] 23)) w.heap.size (w.heap.size + 1) s := ⟨by go_simp, by go_simp, by simp; omega, by simp⟩
  have hx0 : Ext w ((w.alloc (.cells #[.string s] 9)).alloc (.cells #[.int .i64 0] 23)) := (((Ext.refl w).alloc _).alloc _)
  have HB0 := Lib.hid hB0
  have HX0 := Lib.hid hx0
  clear hB0 hx0 hT hL
  rw [show dval 0 ((s.data.toList.drop 0).take (4 - 0)) = yOf s from rfl] at H0
  rw [show dval 0 ((s.data.toList.drop 5).take (7 - 5)) = mOf s from rfl] at H5
  rw [show dval 0 ((s.data.toList.drop 8).take (10 - 8)) = dOf s from rfl] at H8
  generalize yOf s = y at *
  generalize mOf s = m at *
  generalize dOf s = d at *
  unfold DayPost at HD ⊢
  generalize ((if dateB y m d then dayNo y m d else 0 : Nat) : Int) = N at *
  generalize chkE y m d = E at *
  go_enter Tryz.func116, Tryz.ntmps116
  go_wp2_with (first | (go_at_call 154; (have hg := hB2; clear hg); refine (H8.out _ hB2).mono ?_; rintro e w3 ⟨rfl, hx3⟩; have hB3 := hB2.ext hx3; have c4 := fun o => (hB3.ext ((Ext.refl _).alloc o)).err; have hxx3 := hxx2.trans hx3) | (go_at_call 154; (have hg := hB1; clear hg); refine (H5.out _ hB1).mono ?_; rintro e w2 ⟨rfl, hx2⟩; have hB2 := hB1.ext hx2; have hxx2 := hxx1.trans hx2) | (go_at_call 154; refine (H0.out _ HB0.out).mono ?_; rintro e w1 ⟨rfl, hx1⟩; have hB1 := HB0.out.ext hx1; have hxx1 := HX0.out.trans hx1) | (go_at_call 155; refine (HD.out _ (hxx3.alloc _)).mono ?_; rintro e w4 ⟨rfl, hx4⟩))
  refine bodyPost_ret (v := .tuple #[.int .i64 N, .int .i64 E]) (by simp [results, Tryz.results116, go_sem, *]) rfl ?_
  exact ⟨rfl, (hxx3.alloc _).trans hx4⟩
end Go.Proofs.YtnpenepdechkjaaGreatDoor

/- The contract of lexer's 'day'. -/
namespace Go.Proofs.YtnpenepdechkjaaGreatDoor
open Go Go.RowKit

def formL : List UInt8 := [64, 100, 100, 100, 100, 45, 100, 100, 45, 100, 100]
/-- A byte fits the form's byte. -/
def fit (f c : UInt8) : Bool := if f = 100 then dig c else decide (c = f)
theorem dated11 (a0 a1 a2 a3 a4 a5 a6 a7 a8 a9 a10 : UInt8) (r : List UInt8) : dated (a0 :: a1 :: a2 :: a3 :: a4 :: a5 :: a6 :: a7 :: a8 :: a9 :: a10 :: r) = true ↔
    (dig a1 = true ∧ dig a2 = true ∧ dig a3 = true ∧ dig a4 = true ∧ a5 = 45 ∧ dig a6 = true ∧ dig a7 = true ∧ a8 = 45 ∧ dig a9 = true ∧ dig a10 = true) := by
  simp [dated, and_assoc]
theorem dated_fit {s : List UInt8} (h0 : s.head? = some 64) (hl : 11 ≤ s.length) : dated s = true ↔ ∀ (j : Nat) (c f : UInt8), s[j]? = some c → formL[j]? = some f → fit f c = true := by
  rcases s with _ | ⟨a0, _ | ⟨a1, _ | ⟨a2, _ | ⟨a3, _ | ⟨a4, _ | ⟨a5, _ | ⟨a6, _ | ⟨a7, _ | ⟨a8, _ | ⟨a9, _ | ⟨a10, r⟩⟩⟩⟩⟩⟩⟩⟩⟩⟩⟩ <;> try (simp at hl; done)
  rw [dated11]
  have e0 : a0 = 64 := by simpa using h0
  constructor
  · rintro ⟨h1, h2, h3, h4, h5, h6, h7, h8, h9, h10⟩ j c f hc hf
    rcases (by
      have : j < formL.length := by
        rcases Nat.lt_or_ge j formL.length with h | h
        · exact h
        · rw [List.getElem?_eq_none h] at hf; cases hf
      have e : formL.length = 11 := rfl
      omega : j = 0 ∨ j = 1 ∨ j = 2 ∨ j = 3 ∨ j = 4 ∨ j = 5 ∨ j = 6 ∨ j = 7 ∨ j = 8 ∨ j = 9 ∨ j = 10) with rfl | rfl | rfl | rfl | rfl | rfl | rfl | rfl | rfl | rfl | rfl <;>
      (simp [formL] at hc hf; subst hc; subst hf; simp [fit, *])
  · intro h
    refine ⟨h 1 a1 100 rfl rfl, h 2 a2 100 rfl rfl, h 3 a3 100 rfl rfl, h 4 a4 100 rfl rfl, ?_, h 6 a6 100 rfl rfl, h 7 a7 100 rfl rfl, ?_, h 9 a9 100 rfl rfl, h 10 a10 100 rfl rfl⟩
    · have := h 5 a5 45 rfl rfl; simpa [fit] using this
    · have := h 8 a8 45 rfl rfl; simpa [fit] using this
theorem ten_of {s : ByteArray} (h : dated s.data.toList = true) : Ten (s.extract 1 11) := by
  have hl : 11 ≤ s.data.toList.length := by simp only [dated, Bool.and_eq_true, decide_eq_true_eq] at h; exact h.1
  have hs : 11 ≤ s.size := by rw [← list_size]; exact hl
  have e := extract_list s 1 11
  generalize s.data.toList = l at *
  rcases l with _ | ⟨a0, _ | ⟨a1, _ | ⟨a2, _ | ⟨a3, _ | ⟨a4, _ | ⟨a5, _ | ⟨a6, _ | ⟨a7, _ | ⟨a8, _ | ⟨a9, _ | ⟨a10, r⟩⟩⟩⟩⟩⟩⟩⟩⟩⟩⟩ <;> try (simp at hl; done)
  rw [dated11] at h
  obtain ⟨h1, h2, h3, h4, h5, h6, h7, h8, h9, h10⟩ := h
  refine ⟨by rw [ByteArray.size_extract]; omega, ?_, ?_, ?_, ?_, ?_⟩ <;> rw [e] <;> simp [*]
theorem dayP_of (s : ByteArray) : dayP ((s.data.toList.drop 1).take 10) =
    if dateB (yOf (s.extract 1 11)) (mOf (s.extract 1 11)) (dOf (s.extract 1 11)) then some (dayNo (yOf (s.extract 1 11)) (mOf (s.extract 1 11)) (dOf (s.extract 1 11))) else none := by
  unfold dayP yOf mOf dOf
  rw [extract_list]
  rfl
end Go.Proofs.YtnpenepdechkjaaGreatDoor

/- The contract of lexer's 'day': the walk. -/
namespace Go.Proofs.YtnpenepdechkjaaGreatDoor
open Go Go.RowKit

def FitTo (l : List UInt8) (i : Nat) : Prop := ∀ (j : Nat) (c f : UInt8), j < i → l[j]? = some c → formL[j]? = some f → fit f c = true
theorem fit_step {l : List UInt8} {i : Nat} {c f : UInt8} (h : FitTo l i) (hc : l[i]? = some c) (hf : formL[i]? = some f) (hk : fit f c = true) : FitTo l (i + 1) := by
  intro j c' f' hj h1 h2
  by_cases e : j = i
  · subst e; rw [hc] at h1; rw [hf] at h2; injection h1 with h1; injection h2 with h2; subst h1; subst h2; exact hk
  · exact h j c' f' (by omega) h1 h2
theorem fit_bad {l : List UInt8} {i : Nat} {c f : UInt8} (h0 : l.head? = some 64) (hl : 11 ≤ l.length) (hc : l[i]? = some c) (hf : formL[i]? = some f) (hk : fit f c = false) : dayT l = .err 20 := by
  rw [dayT, if_neg]
  intro hd
  have := (dated_fit h0 hl).1 hd i c f hc hf
  rw [hk] at this; cases this
theorem fit_all {l : List UInt8} (h0 : l.head? = some 64) (hl : 11 ≤ l.length) (h : FitTo l 11) : dated l = true :=
  (dated_fit h0 hl).2 fun j c f hc hf => h j c f (by
    rcases Nat.lt_or_ge j 11 with h | h
    · exact h
    · have : formL[j]? = none := List.getElem?_eq_none h
      rw [this] at hf; cases hf) hc hf
theorem form_at : ∀ i, i < 11 → ∃ f, formL[i]? = some f ∧ f.toNat < 128 ∧ ∀ h : i < (⟨#[64, 100, 100, 100, 100, 45, 100, 100, 45, 100, 100]⟩ : ByteArray).size, (⟨#[64, 100, 100, 100, 100, 45, 100, 100, 45, 100, 100]⟩ : ByteArray)[i]'h = f := by
  intro i hi
  rcases (by omega : i = 0 ∨ i = 1 ∨ i = 2 ∨ i = 3 ∨ i = 4 ∨ i = 5 ∨ i = 6 ∨ i = 7 ∨ i = 8 ∨ i = 9 ∨ i = 10) with rfl | rfl | rfl | rfl | rfl | rfl | rfl | rfl | rfl | rfl | rfl <;>
    exact ⟨_, rfl, by decide, fun _ => rfl⟩
theorem digI_dig (c : UInt8) : digI (c.toNat : Int) = dig c := by
  rw [digI, dig]; congr 1 <;> (apply decide_eq_decide.2; omega)
def FW (w : World) (i : Nat) : World := (w.alloc (.cells #[.int .i64 0, .int .i64 0, .string ⟨#[]⟩, .int .i64 0] 46)).alloc (.stringIter ⟨#[64, 100, 100, 100, 100, 45, 100, 100, 45, 100, 100]⟩ i)
def DRel (s : ByteArray) (w w' : World) : Prop := ∃ i, i ≤ 11 ∧ FitTo s.data.toList i ∧ w' = FW w i
theorem low_get (s : ByteArray) (i : Nat) (h : i < s.size) : s.data.toList[i]? = some (s[i]'h) := by
  have h' : i < s.data.toList.length := by rw [list_size]; exact h
  rw [List.getElem?_eq_getElem h']; rfl
set_option maxHeartbeats 4000000 in
set_option maxRecDepth 100000 in
theorem lday_any (s : ByteArray) (w : World) (h0 : s.data.toList.head? = some 64) (hs : s.size ≤ 281474976710656) (hL : EnvL w) : Calls Tryz.prog 70 #[.string s] w (TPost (dayT s.data.toList) s w) := by
  by_cases h11 : s.size < 11
  · have hT : dayT s.data.toList = .err 20 := by
      rw [dayT, if_neg]
      intro hd
      simp only [dated, Bool.and_eq_true, decide_eq_true_eq] at hd
      have := hd.1; rw [list_size] at this; omega
    have HT := Lib.hid hT
    have h11' : (s.size : Int) < 11 := by omega
    clear hT
    go_enter Tryz.func70, Tryz.ntmps70
    go_wp2
    refine bodyPost_ret (v := .tuple #[.agg #[.int .i64 0, .int .i64 0, .string ⟨#[]⟩, .int .i64 0], .int .i64 20]) (by simp [results, Tryz.results70, go_sem, *]) rfl ?_
    exact tpost_err HT.out rfl ((Ext.refl w).alloc _)
  · have h11' : ¬ (s.size : Int) < 11 := by omega
    have hl : 11 ≤ s.data.toList.length := by rw [list_size]; omega
    have HL := Lib.hid hL
    have HH := Lib.hid h0
    have HLN := Lib.hid hl
    clear h0 hl hL
    go_enter Tryz.func70, Tryz.ntmps70
    go_wp2
    go_loopw [] (fun w' => DRel s w w') (fun w' => 11 - w'.iterPos (w.heap.size + 1))
    case atStart => exact ⟨0, by omega, fun j c f h => absurd h (by omega), rfl⟩
    case round =>
      obtain ⟨i, hi, hfit, rfl⟩ := hrel
      have HF := Lib.hid hfit
      clear hfit
      by_cases hi11 : i < 11
      · obtain ⟨f, hf, hf128, hfi⟩ := form_at i hi11
        have hisz : i < (⟨#[64, 100, 100, 100, 100, 45, 100, 100, 45, 100, 100]⟩ : ByteArray).size := hi11
        have hnx := fun ty => next_any (w.alloc (.cells #[.int .i64 0, .int .i64 0, .string ⟨#[]⟩, .int .i64 0] 46)) (w.heap.size + 1) (by simp) ⟨#[64, 100, 100, 100, 100, 45, 100, 100, 45, 100, 100]⟩ i ty hisz
        have hdec := decode_ascii ⟨#[64, 100, 100, 100, 100, 45, 100, 100, 45, 100, 100]⟩ i hisz (by rw [hfi hisz]; exact hf128)
        rw [hfi hisz] at hdec
        simp only [hdec] at hnx
        have hsi : i < s.size := by omega
        have hci := low_get s i hsi
        have HD := Lib.hid (fun X => digit_any ((s[i]'hsi).toNat : Int) X)
        have hme : 11 - (FW w (i + 1)).iterPos (w.heap.size + 1) < 11 - (FW w i).iterPos (w.heap.size + 1) := by
          unfold FW; rw [iterPos_at _ _ (by simp), iterPos_at _ _ (by simp)]; omega
        have HM := Lib.hid hme
        have HCI := Lib.hid hci
        have HFF := Lib.hid hf
        clear hdec hfi hme hci hf
        rw [digI_dig] at HD
        have hwr : wrap32 ((s[i]'hsi).toNat : Int) = ((s[i]'hsi).toNat : Int) := by unfold wrap32; (have := (s[i]'hsi).toNat_lt; omega)
        by_cases hf100 : f = 100
        · have g1 : ((f.toNat : Int) == 100) = true := by rw [hf100]; rfl
          cases hdg : dig (s[i]'hsi) with
          | true =>
            rw [hdg] at HD
            have FIN := Lib.hid (show DRel s w (FW w (i + 1)) from ⟨i + 1, by omega, fit_step HF.out HCI.out HFF.out (by rw [fit, if_pos hf100]; exact hdg), rfl⟩)
            clear HF HCI HFF HLN HH
            unfold FW
            go_wp2_with (first | (go_at_call 68; refine (HD.out _).mono ?_; rintro e w1 ⟨rfl, rfl⟩))
            exact ⟨FIN.out, HM.out⟩
          | false =>
            rw [hdg] at HD
            have HT := Lib.hid (fit_bad HH.out HLN.out HCI.out HFF.out (by rw [fit, if_pos hf100]; exact hdg))
            clear HF HCI HFF HLN HH
            unfold FW
            go_wp2_with (first | (go_at_call 68; refine (HD.out _).mono ?_; rintro e w1 ⟨rfl, rfl⟩))
            refine bodyPost_ret (v := .tuple #[.agg #[.int .i64 0, .int .i64 0, .string ⟨#[]⟩, .int .i64 0], .int .i64 20]) (by simp [results, Tryz.results70, go_sem, *]) rfl ?_
            exact tpost_err HT.out rfl (by repeat (first | exact Ext.refl _ | apply Ext.alloc))
        · have g1 : ((f.toNat : Int) == 100) = false := by
            rw [beq_eq_false_iff_ne]; intro e; exact hf100 (UInt8.toNat_inj.1 (by have : (100 : UInt8).toNat = 100 := rfl; omega))
          have g2 : ((f.toNat : Int) != 100) = true := by rw [bne_iff_ne]; exact beq_eq_false_iff_ne.1 g1
          by_cases hcf : s[i]'hsi = f
          · have g3 : (((s[i]'hsi).toNat : Int) != (f.toNat : Int)) = false := by rw [hcf]; simp
            have FIN := Lib.hid (show DRel s w (FW w (i + 1)) from ⟨i + 1, by omega, fit_step HF.out HCI.out HFF.out (by rw [fit, if_neg hf100]; exact decide_eq_true hcf), rfl⟩)
            clear HF HCI HFF HLN HH
            unfold FW
            go_wp2_with (first | (go_at_call 68; refine (HD.out _).mono ?_; rintro e w1 ⟨rfl, rfl⟩))
            exact ⟨FIN.out, HM.out⟩
          · have g3 : (((s[i]'hsi).toNat : Int) != (f.toNat : Int)) = true := by
              rw [bne_iff_ne]; intro e; exact hcf (UInt8.toNat_inj.1 (by omega))
            have HT := Lib.hid (fit_bad HH.out HLN.out HCI.out HFF.out (by rw [fit, if_neg hf100]; exact decide_eq_false hcf))
            clear HF HCI HFF HLN HH
            unfold FW
            go_wp2_with (first | (go_at_call 68; refine (HD.out _).mono ?_; rintro e w1 ⟨rfl, rfl⟩))
            refine bodyPost_ret (v := .tuple #[.agg #[.int .i64 0, .int .i64 0, .string ⟨#[]⟩, .int .i64 0], .int .i64 20]) (by simp [results, Tryz.results70, go_sem, *]) rfl ?_
            exact tpost_err HT.out rfl (by repeat (first | exact Ext.refl _ | apply Ext.alloc))
      · obtain rfl : i = 11 := by omega
        have hnx := fun ty => next_end (w.alloc (.cells #[.int .i64 0, .int .i64 0, .string ⟨#[]⟩, .int .i64 0] 46)) (w.heap.size + 1) (by simp) ⟨#[64, 100, 100, 100, 100, 45, 100, 100, 45, 100, 100]⟩ 11 ty (by decide)
        have hdt := fit_all HH.out HLN.out HF.out
        have hx0 : Ext w (FW w 11) := by unfold FW; exact ((Ext.refl w).alloc _).alloc _
        have htb : TBox (FW w 11) w.heap.size 0 0 ⟨#[]⟩ 0 := by unfold FW; exact (TBox.new w 0 0 0 ⟨#[]⟩ 46).ext ((Ext.refl _).alloc _)
        have hP := fun X (hX : Ext w X) => parse_any (s.extract 1 11) X (ten_of hdt) (HL.out.ext hX)
        have hdp := dayP_of s
        have hT0 : dayT s.data.toList = match dayP ((s.data.toList.drop 1).take 10) with | some d => T1.ok 3 11 d | none => .err 5 := by rw [dayT, if_pos hdt] <;> cases dayP ((s.data.toList.drop 1).take 10) <;> rfl
        rw [hdp] at hT0
        unfold DayPost at hP
        generalize yOf (s.extract 1 11) = y at *
        generalize mOf (s.extract 1 11) = m at *
        generalize dOf (s.extract 1 11) = d at *
        have h11s : 11 ≤ s.size := by omega
        cases hb : dateB y m d with
        | true =>
          have HP := Lib.hid (fun X (hX : Ext w X) => (hP X hX).mono (show ∀ e X', _ → (e = .returned (.tuple #[.int .i64 (dayNo y m d : Nat), .int .i64 0]) ∧ Ext X X') from fun e X' h => by rw [hb] at h; rw [chkE, hb] at h; exact h))
          have HT := Lib.hid (show dayT s.data.toList = .ok 3 11 (dayNo y m d : Nat) by rw [hT0, hb]; rfl)
          have HX := Lib.hid hx0
          have HB := Lib.hid htb
          generalize dayNo y m d = N at *
          clear hP hT0 hdp hdt HF HH HLN hx0 htb hb
          unfold FW
          go_wp2_with (first | (go_at_call 116; refine (HP.out _ HX.out).mono ?_; rintro e w1 ⟨rfl, hx⟩; have q := HB.out.ext hx; have hx3 := HX.out.trans hx; obtain ⟨q0, q1, q2, q3, q4, q5, q6, q7, q8⟩ := q))
          refine bodyPost_ret (v := .tuple #[.agg #[.int .i64 3, .int .i64 0, .string (s.extract 0 11), .int .i64 N], .int .i64 0]) (by simp [results, Tryz.results70, go_sem, *]) rfl ?_
          exact tpost_ok HT.out rfl rfl (extract_take _ _) (hx3.store4 (Nat.le_refl _) _ _ _ _)
        | false =>
          have HP := Lib.hid (fun X (hX : Ext w X) => (hP X hX).mono (show ∀ e X', _ → (e = .returned (.tuple #[.int .i64 0, .int .i64 5]) ∧ Ext X X') from fun e X' h => by rw [hb] at h; rw [chkE, hb] at h; exact h))
          have HT := Lib.hid (show dayT s.data.toList = .err 5 by rw [hT0, hb]; rfl)
          have HX := Lib.hid hx0
          have HB := Lib.hid htb
          clear hP hT0 hdp hdt HF HH HLN hx0 htb hb
          unfold FW
          go_wp2_with (first | (go_at_call 116; refine (HP.out _ HX.out).mono ?_; rintro e w1 ⟨rfl, hx⟩; have q := HB.out.ext hx; have hx3 := HX.out.trans hx; obtain ⟨q0, q1, q2, q3, q4, q5, q6, q7, q8⟩ := q))
          refine bodyPost_ret (v := .tuple #[.agg #[.int .i64 0, .int .i64 0, .string ⟨#[]⟩, .int .i64 0], .int .i64 5]) (by simp [results, Tryz.results70, go_sem, *]) rfl ?_
          exact tpost_err HT.out rfl (hx3.store4 (Nat.le_refl _) _ _ _ _)
end Go.Proofs.YtnpenepdechkjaaGreatDoor

/- Plain law: how tokens behave when something is written behind a text. -/
namespace Go.Proofs.YtnpenepdechkjaaGreatDoor
open Go

/-- A byte behind which no token goes on. -/
def sepc (c : UInt8) : Bool := !wch c && (!decide (c = 61) && !decide (c = 45))
def SepHead (t : List UInt8) : Prop := ∀ c, t.head? = some c → sepc c = true
theorem sepc_wch {c : UInt8} (h : sepc c = true) : wch c = false := by simp [sepc] at h; exact h.1
theorem sepc_dig {c : UInt8} (h : sepc c = true) : dig c = false := by have := sepc_wch h; simp [wch] at this; exact this.2
theorem sepc_61 {c : UInt8} (h : sepc c = true) : c ≠ 61 := by simp [sepc] at h; exact h.2.1
theorem sepc_45 {c : UInt8} (h : sepc c = true) : c ≠ 45 := by simp [sepc] at h; exact h.2.2
theorem tw_app {p : UInt8 → Bool} {t : List UInt8} (h : ∀ c, t.head? = some c → p c = false) (s : List UInt8) : (s ++ t).takeWhile p = s.takeWhile p := by
  induction s with
  | nil => cases t with
    | nil => rfl
    | cons c t => have := h c rfl; simp [this]
  | cons c s ih => rw [List.cons_append, List.takeWhile_cons, List.takeWhile_cons, ih]
theorem dated_at {s : List UInt8} (h : dated s = true) {i : Nat} (h1 : 1 ≤ i) (h2 : i ≤ 10) : ∃ c, s[i]? = some c ∧ (dig c = true ∨ c = 45) := by
  simp only [dated, Bool.and_eq_true, decide_eq_true_eq] at h
  obtain ⟨hl, ha, h5, hb, h8, hc⟩ := h
  have hi : i < s.length := by omega
  refine ⟨s[i], List.getElem?_eq_getElem hi, ?_⟩
  have mem : ∀ a n, a ≤ i → i < a + n → s[i] ∈ (s.drop a).take n := fun a n g1 g2 => by
    rw [List.mem_iff_getElem?]
    refine ⟨i - a, ?_⟩
    rw [List.getElem?_take, if_pos (by omega), List.getElem?_drop, show a + (i - a) = i by omega]
    exact List.getElem?_eq_getElem hi
  by_cases i4 : i ≤ 4
  · exact .inl (List.all_eq_true.1 ha _ (mem 1 4 h1 (by omega)))
  · by_cases i5 : i = 5
    · subst i5; rw [List.getElem?_eq_getElem hi] at h5; exact .inr (by simpa using h5)
    · by_cases i7 : i ≤ 7
      · exact .inl (List.all_eq_true.1 hb _ (mem 6 2 (by omega) (by omega)))
      · by_cases i8 : i = 8
        · subst i8; rw [List.getElem?_eq_getElem hi] at h8; exact .inr (by simpa using h8)
        · exact .inl (List.all_eq_true.1 hc _ (mem 9 2 (by omega) (by omega)))
theorem take_drop_app {s t : List UInt8} {a n : Nat} (h : a + n ≤ s.length) : ((s ++ t).drop a).take n = (s.drop a).take n := by
  rw [List.drop_append_of_le_length (by omega), List.take_append_of_le_length (by rw [List.length_drop]; omega)]
theorem dated_app {s t : List UInt8} (hs : s ≠ []) (h : SepHead t) : dated (s ++ t) = dated s := by
  by_cases hl : 11 ≤ s.length
  · unfold dated
    rw [take_drop_app (by omega), take_drop_app (by omega), take_drop_app (by omega), List.getElem?_append_left (by omega), List.getElem?_append_left (by omega), List.length_append]
    rw [show decide (11 ≤ s.length + t.length) = decide (11 ≤ s.length) by rw [decide_eq_true (show 11 ≤ s.length + t.length by omega), decide_eq_true hl]]
  · have h0 : dated s = false := by unfold dated; rw [decide_eq_false hl]; rfl
    rw [h0]
    cases hd : dated (s ++ t) with
    | false => rfl
    | true =>
      have hn : 1 ≤ s.length := by cases s with
        | nil => exact absurd rfl hs
        | cons => simp
      obtain ⟨c, hc, hx⟩ := dated_at hd hn (by omega)
      rw [List.getElem?_append_right (Nat.le_refl _), Nat.sub_self] at hc
      have hsep := h c (by rw [List.head?_eq_getElem?]; exact hc)
      rcases hx with hx | hx
      · rw [sepc_dig hsep] at hx; cases hx
      · exact absurd hx (sepc_45 hsep)
theorem symN_app {c : UInt8} {r t : List UInt8} (h : SepHead t) : symN (c :: (r ++ t)) = symN (c :: r) := by
  rw [symN_cons, symN_cons]
  cases r with
  | nil =>
    have : ¬ (([] : List UInt8) ++ t).head? = some 61 := fun e => sepc_61 (h 61 e) rfl
    simp only [this, and_false, List.head?_nil]
    simp
  | cons x r => simp
/-- What is read ahead of a byte that ends every token does not hang on what follows. -/
theorem tok1_app {s t : List UInt8} (hs : s ≠ []) (h : SepHead t) : tok1 (s ++ t) = tok1 s := by
  cases s with
  | nil => exact absurd rfl hs
  | cons c r =>
    have hw : (c :: (r ++ t)).takeWhile wch = (c :: r).takeWhile wch := tw_app (fun x hx => sepc_wch (h x hx)) (c :: r)
    have hd : (c :: (r ++ t)).takeWhile dig = (c :: r).takeWhile dig := tw_app (fun x hx => sepc_dig (h x hx)) (c :: r)
    have hda : dated (c :: (r ++ t)) = dated (c :: r) := dated_app (s := c :: r) (by simp) h
    rw [List.cons_append, tok1_cons, tok1_cons, hw, hd, hda, symN_app h]
    by_cases h64 : c = 64 ∧ dated (c :: r) = true
    · have hl : 11 ≤ (c :: r).length := by
        have := h64.2
        simp only [dated, Bool.and_eq_true, decide_eq_true_eq] at this
        exact this.1
      rw [show ((c :: (r ++ t)).drop 1).take 10 = ((c :: r).drop 1).take 10 from take_drop_app (s := c :: r) (by omega)]
    · by_cases h1 : c = 64
      · have h2 : dated (c :: r) = false := by
          cases hx : dated (c :: r) with
          | false => rfl
          | true => exact absurd ⟨h1, hx⟩ h64
        simp only [h2, Bool.false_eq_true, if_false]
      · simp only [h1, if_false]
theorem tok1_err_ne {s : List UInt8} {e : Int} (h : tok1 s = .err e) : e ≠ 0 := by
  cases s with
  | nil => injection h with h; subst h; decide
  | cons c r =>
    rw [tok1_cons] at h
    repeat' split at h
    all_goals first | (injection h with h; subst h; decide) | cases h

/-! ### White space and comments -/
/-- Does a comment go on at the end? -/
def cmA : Bool → List UInt8 → Bool
  | cm, [] => cm
  | cm, c :: r => if c = 10 then cmA false r else if c = 35 then cmA true r else cmA cm r
theorem skipB_app : ∀ (cm : Bool) (s t : List UInt8), skipB cm s = [] → skipB cm (s ++ t) = skipB (cmA cm s) t
  | _, [], _, _ => rfl
  | cm, c :: r, t, h => by
    rw [skipB] at h
    rw [List.cons_append, skipB, cmA]
    split
    · rename_i hc; rw [if_pos hc] at h; exact skipB_app false r t h
    · rename_i hc; rw [if_neg hc] at h
      split
      · rename_i h35; rw [if_pos h35] at h; exact skipB_app true r t h
      · rename_i h35; rw [if_neg h35] at h
        split
        · rename_i hb; rw [if_pos hb] at h; exact skipB_app cm r t h
        · rename_i hb; rw [if_neg hb] at h; cases h
theorem skipB_app2 : ∀ (cm : Bool) (s t : List UInt8), skipB cm s ≠ [] → skipB cm (s ++ t) = skipB cm s ++ t
  | _, [], _, h => absurd rfl h
  | cm, c :: r, t, h => by
    rw [skipB] at h
    rw [List.cons_append, skipB]
    conv => rhs; rw [skipB]
    split
    · rename_i hc; rw [if_pos hc] at h; exact skipB_app2 false r t h
    · rename_i hc; rw [if_neg hc] at h
      split
      · rename_i h35; rw [if_pos h35] at h; exact skipB_app2 true r t h
      · rename_i h35; rw [if_neg h35] at h
        split
        · rename_i hb; rw [if_pos hb] at h; exact skipB_app2 cm r t h
        · rfl
theorem skipB_drop : ∀ (cm : Bool) (s : List UInt8), s.drop (s.length - (skipB cm s).length) = skipB cm s
  | _, [] => rfl
  | cm, c :: r => by
    have step : ∀ b, skipB cm (c :: r) = skipB b r → (c :: r).drop ((c :: r).length - (skipB cm (c :: r)).length) = skipB cm (c :: r) := fun b h => by
      have h1 := skipB_len b r
      rw [h, List.length_cons, show r.length + 1 - (skipB b r).length = (r.length - (skipB b r).length) + 1 by omega, List.drop_succ_cons]
      exact skipB_drop b r
    by_cases hc : c = 10
    · exact step false (by rw [skipB, if_pos hc])
    · by_cases h35 : c = 35
      · exact step true (by rw [skipB, if_neg hc, if_pos h35])
      · by_cases hb : (cm || blk c) = true
        · exact step cm (by rw [skipB, if_neg hc, if_neg h35, if_pos hb])
        · rw [show skipB cm (c :: r) = c :: r by rw [skipB, if_neg hc, if_neg h35, if_neg hb], Nat.sub_self]; rfl
/-- Tokens hang on what is left behind the white space, and on where it stands. -/
theorem lex_skip {k k' : Nat} {s s' : List UInt8} (h : skipB false s = skipB false s') (hk : k + s.length = k' + s'.length) : lexW k s = lexW k' s' := by
  have h1 := skipB_len false s
  have h2 := skipB_len false s'
  rw [h] at h1
  by_cases h0 : skipB false s' = []
  · rw [lex_end (h.trans h0), lex_end h0, hk]
  · have e : k + (s.length - (skipB false s').length) = k' + (s'.length - (skipB false s').length) := by omega
    cases ht : tok1 (skipB false s') with
    | err e' => rw [lex_err (s := s) (h ▸ h0) (h ▸ ht), lex_err h0 ht, h, e]
    | ok kd n v =>
      have hn := (tok1_len ht).1
      rw [lex_ok (s := s) (h ▸ h0) (h ▸ ht) hn, lex_ok h0 ht hn, h, e]
end Go.Proofs.YtnpenepdechkjaaGreatDoor

/- Plain law: the tokens of texts that are put together or cut off. -/
namespace Go.Proofs.YtnpenepdechkjaaGreatDoor
open Go

def LexR.putAll (l : List Tk) (r : LexR) : LexR := l.foldr LexR.put r
theorem putAll_nil (r : LexR) : LexR.putAll [] r = r := rfl
theorem putAll_cons (t : Tk) (l : List Tk) (r : LexR) : LexR.putAll (t :: l) r = (LexR.putAll l r).put t := rfl
theorem put_ok {t : Tk} {r : LexR} (h : r.e = 0) : r.put t = ⟨t :: r.l, r.off, 0⟩ := by unfold LexR.put; rw [if_pos h]
theorem put_err {t : Tk} {r : LexR} (h : r.e ≠ 0) : r.put t = r := by unfold LexR.put; rw [if_neg h]
theorem put_e (t : Tk) (r : LexR) : (r.put t).e = r.e := by
  by_cases h : r.e = 0
  · rw [put_ok h, h]
  · rw [put_err h]
theorem putAll_ok {l : List Tk} {r : LexR} (h : r.e = 0) : LexR.putAll l r = ⟨l ++ r.l, r.off, 0⟩ := by
  induction l with
  | nil => rw [putAll_nil]; cases r; simp only at h; subst h; rfl
  | cons t l ih => rw [putAll_cons, ih, put_ok rfl]; rfl
theorem putAll_err {l : List Tk} {r : LexR} (h : r.e ≠ 0) : LexR.putAll l r = r := by
  induction l with
  | nil => rfl
  | cons t l ih => rw [putAll_cons, ih, put_err h]
def endT (k : Nat) : Tk := ⟨0, (k : Nat), [], 0⟩

/-- How the tokens of a text go on. -/
theorem lex_cases (k : Nat) (s : List UInt8) :
    (skipB false s = [] ∧ lexW k s = ⟨[endT (k + s.length)], 0, 0⟩) ∨
    (∃ e, skipB false s ≠ [] ∧ tok1 (skipB false s) = .err e ∧ e ≠ 0 ∧ lexW k s = ⟨[], (k + (s.length - (skipB false s).length) : Nat), e⟩) ∨
    (∃ kd n v, skipB false s ≠ [] ∧ tok1 (skipB false s) = .ok kd n v ∧ 0 < n ∧ n ≤ (skipB false s).length ∧
      lexW k s = (lexW (k + (s.length - (skipB false s).length) + n) ((skipB false s).drop n)).put ⟨kd, (k + (s.length - (skipB false s).length) : Nat), (skipB false s).take n, v⟩) := by
  by_cases h0 : skipB false s = []
  · exact .inl ⟨h0, lex_end h0⟩
  · cases ht : tok1 (skipB false s) with
    | err e => exact .inr (.inl ⟨e, h0, rfl, tok1_err_ne ht, lex_err h0 ht⟩)
    | ok kd n v => exact .inr (.inr ⟨kd, n, v, h0, rfl, (tok1_len ht).1, (tok1_len ht).2, lex_ok h0 ht (tok1_len ht).1⟩)
theorem rest_lt {s : List UInt8} {n : Nat} (h0 : skipB false s ≠ []) (hn : 0 < n) : ((skipB false s).drop n).length < s.length := by
  have h1 := skipB_len false s
  have h2 : 0 < (skipB false s).length := by
    cases hs : skipB false s with
    | nil => exact absurd hs h0
    | cons => simp
  rw [List.length_drop]; omega

/-! ### Two texts with a line feed between them -/
theorem sep10 (t : List UInt8) : SepHead (10 :: t) := fun c h => by
  obtain rfl : (10 : UInt8) = c := by simpa using h
  decide
theorem sep32 (t : List UInt8) : SepHead (32 :: t) := fun c h => by
  obtain rfl : (32 : UInt8) = c := by simpa using h
  decide
theorem skip10 (cm : Bool) (t : List UInt8) : skipB cm (10 :: t) = skipB false t := by rw [skipB, if_pos rfl]
theorem lex_cat (t : List UInt8) : ∀ (m : Nat) (s : List UInt8), s.length ≤ m → ∀ k,
    ((lexW k s).e ≠ 0 → lexW k (s ++ 10 :: t) = lexW k s) ∧
    ((lexW k s).e = 0 → ∃ l, lexW k s = ⟨l ++ [endT (k + s.length)], 0, 0⟩ ∧ lexW k (s ++ 10 :: t) = LexR.putAll l (lexW (k + s.length + 1) t)) := by
  intro m
  induction m with
  | zero =>
    intro s hs k
    obtain rfl : s = [] := List.length_eq_zero_iff.1 (by omega)
    rw [lex_end (k := k) (s := []) rfl]
    refine ⟨fun h => absurd rfl h, fun _ => ⟨[], rfl, ?_⟩⟩
    rw [putAll_nil]
    exact lex_skip (by rw [List.nil_append, skip10]) (by simp; omega)
  | succ m ih =>
    intro s hs k
    rcases lex_cases k s with ⟨h0, h1⟩ | ⟨e, h0, ht, he, h1⟩ | ⟨kd, n, v, h0, ht, hn, hnl, h1⟩
    · rw [h1]
      refine ⟨fun h => absurd rfl h, fun _ => ⟨[], rfl, ?_⟩⟩
      rw [putAll_nil]
      exact lex_skip (by rw [skipB_app _ _ _ h0, skip10]) (by simp; omega)
    · rw [h1]
      refine ⟨fun _ => ?_, fun h => absurd h he⟩
      have hs2 := skipB_app2 false s (10 :: t) h0
      rw [lex_err (s := s ++ 10 :: t) (by rw [hs2]; simp) (by rw [hs2, tok1_app h0 (sep10 t)]; exact ht), hs2]
      have := skipB_len false s
      congr 2
      simp only [List.length_append]
      omega
    · have hs2 := skipB_app2 false s (10 :: t) h0
      have hl := skipB_len false s
      have hr := rest_lt h0 hn
      obtain ⟨g1, g2⟩ := ih ((skipB false s).drop n) (by omega) (k + (s.length - (skipB false s).length) + n)
      have e1 : lexW k (s ++ 10 :: t) = (lexW (k + (s.length - (skipB false s).length) + n) ((skipB false s).drop n ++ 10 :: t)).put ⟨kd, (k + (s.length - (skipB false s).length) : Nat), (skipB false s).take n, v⟩ := by
        rw [lex_ok (s := s ++ 10 :: t) (by rw [hs2]; simp) (by rw [hs2, tok1_app h0 (sep10 t)]; exact ht) hn, hs2, List.drop_append_of_le_length hnl, List.take_append_of_le_length hnl]
        rw [show (s ++ 10 :: t).length - (skipB false s ++ 10 :: t).length = s.length - (skipB false s).length by simp only [List.length_append]; omega]
      rw [e1, h1]
      refine ⟨fun h => ?_, fun h => ?_⟩
      · rw [put_e] at h
        rw [g1 h]
      · rw [put_e] at h
        obtain ⟨l, h2, h3⟩ := g2 h
        refine ⟨⟨kd, (k + (s.length - (skipB false s).length) : Nat), (skipB false s).take n, v⟩ :: l, ?_, ?_⟩
        · rw [h2, put_ok rfl, List.length_drop]
          rw [show k + (s.length - (skipB false s).length) + n + ((skipB false s).length - n) = k + s.length by omega]
          rfl
        · rw [h3, putAll_cons, List.length_drop]
          rw [show k + (s.length - (skipB false s).length) + n + ((skipB false s).length - n) + 1 = k + s.length + 1 by omega]

/-! ### Prefixes -/
theorem tw_take {p : UInt8 → Bool} : ∀ (s : List UInt8) (m : Nat), (s.takeWhile p).length ≤ m → (s.take m).takeWhile p = s.takeWhile p
  | [], _, _ => by simp
  | c :: s, 0, h => by
    rw [List.takeWhile_cons] at h ⊢
    split
    · rename_i hc; rw [if_pos hc] at h; simp at h
    · rfl
  | c :: s, m + 1, h => by
    rw [List.take_succ_cons, List.takeWhile_cons, List.takeWhile_cons]
    split
    · rename_i hc
      rw [List.takeWhile_cons, if_pos hc] at h
      rw [tw_take s m (by simpa using h)]
    · rfl
theorem take_drop_take {s : List UInt8} {a n m : Nat} (h : a + n ≤ m) : ((s.take m).drop a).take n = (s.drop a).take n := by
  rw [List.drop_take, List.take_take, Nat.min_eq_left (by omega)]
/-- A token that is read is read out of every prefix that holds it. -/
theorem tok1_take {s : List UInt8} {kd : Int} {n m : Nat} {v : Int} (h : tok1 s = .ok kd n v) (hm : n ≤ m) : tok1 (s.take m) = .ok kd n v := by
  cases s with
  | nil => cases h
  | cons c r =>
    obtain ⟨m, rfl⟩ : ∃ m', m = m' + 1 := ⟨m - 1, by have := (tok1_len h).1; omega⟩
    rw [List.take_succ_cons, tok1_cons]
    rw [tok1_cons] at h
    by_cases hl : low c = true
    · rw [if_pos hl] at h ⊢
      split at h
      · cases h
      · injection h with h1 h2 h3
        rw [← List.take_succ_cons, tw_take _ _ (by omega)]
        rename_i h12
        rw [if_neg h12, h1, h2, h3]
    · rw [if_neg hl] at h ⊢
      by_cases hd : dig c = true
      · rw [if_pos hd] at h ⊢
        split at h
        · cases h
        · split at h
          · cases h
          · rename_i g1 g2
            injection h with h1 h2 h3
            rw [← List.take_succ_cons, tw_take _ _ (by omega), if_neg g1, if_neg g2, h1, h2, h3]
      · rw [if_neg hd] at h ⊢
        by_cases h64 : c = 64
        · rw [if_pos h64] at h ⊢
          split at h
          · rename_i hda
            cases hp : dayP (((c :: r).drop 1).take 10) with
            | none => rw [hp] at h; cases h
            | some d =>
              rw [hp] at h
              injection h with h1 h2 h3
              have hda2 : dated (c :: r.take m) = true := by
                simp only [dated, Bool.and_eq_true, decide_eq_true_eq] at hda ⊢
                obtain ⟨k1, k2, k3, k4, k5, k6⟩ := hda
                rw [← List.take_succ_cons, take_drop_take (by omega), take_drop_take (by omega), take_drop_take (by omega), List.getElem?_take, if_pos (by omega), List.getElem?_take, if_pos (by omega), List.length_take]
                exact ⟨by omega, k2, k3, k4, k5, k6⟩
              rw [if_pos hda2, ← List.take_succ_cons, take_drop_take (by omega), hp]
              simp only [h1, h2, h3]
          · cases h
        · rw [if_neg h64] at h ⊢
          split at h
          · cases h
          · rename_i hs
            injection h with h1 h2 h3
            have e : symN (c :: r.take m) = symN (c :: r) := by
              rw [symN_cons, symN_cons] at *
              cases r with
              | nil => simp
              | cons x r =>
                cases m with
                | zero =>
                  rw [List.take_zero]
                  by_cases hx : (c = 60 ∨ c = 33 ∨ c = 62) ∧ (x :: r).head? = some 61
                  · rw [if_pos hx] at h2; omega
                  · rw [if_neg hx]; simp
                | succ m => simp
            rw [e, if_neg hs, h1, h2, h3]
/-- A token's first byte is neither white space nor opens a comment. -/
theorem tok1_head {c : UInt8} {r : List UInt8} {kd : Int} {n : Nat} {v : Int} (h : tok1 (c :: r) = .ok kd n v) : c ≠ 10 ∧ c ≠ 35 ∧ blk c = false := by
  have key : ∀ x : UInt8, (x = 10 ∨ x = 35 ∨ blk x = true) → low x = false ∧ dig x = false ∧ x ≠ 64 ∧ symN (x :: r) = 0 := by
    intro x hx
    have h5 : x = 10 ∨ x = 35 ∨ x = 9 ∨ x = 13 ∨ x = 32 := by
      rcases hx with hx | hx | hx
      · exact .inl hx
      · exact .inr (.inl hx)
      · simp [blk] at hx
        rcases hx with hx | hx | hx | hx
        · exact .inr (.inr (.inl hx))
        · exact .inl hx
        · exact .inr (.inr (.inr (.inl hx)))
        · exact .inr (.inr (.inr (.inr hx)))
    rcases h5 with rfl | rfl | rfl | rfl | rfl <;> exact ⟨by decide, by decide, by decide, by rw [symN_cons]; simp⟩
  have hn : ¬ (c = 10 ∨ c = 35 ∨ blk c = true) := fun hx => by
    obtain ⟨k1, k2, k3, k4⟩ := key c hx
    rw [tok1_cons, k1, k2, k4] at h
    simp [k3] at h
  refine ⟨fun h => hn (.inl h), fun h => hn (.inr (.inl h)), ?_⟩
  cases hb : blk c with
  | false => rfl
  | true => exact absurd (.inr (.inr hb)) hn
theorem skip_tok {x t : List UInt8} {kd : Int} {n : Nat} {v : Int} (h : tok1 (x ++ t) = .ok kd n v) : skipB false (x ++ t) = x ++ t := by
  cases hx : x ++ t with
  | nil => rw [hx] at h; cases h
  | cons c r =>
    rw [hx] at h
    obtain ⟨h1, h2, h3⟩ := tok1_head h
    rw [skipB, if_neg h1, if_neg h2, h3]
    rfl
end Go.Proofs.YtnpenepdechkjaaGreatDoor

/- Lists of tokens in memory; the step of the loop over a source. -/
namespace Go.Proofs.YtnpenepdechkjaaGreatDoor
open Go Go.RowKit

theorem info36 : (Tryz.prog.info? 46).map (fun i => (i.zero, i.size, i.bytes)) = some (some (.agg #[.int .i64 0, .int .i64 0, .string ⟨#[]⟩, .int .i64 0]), 4, 40) := by kernel_rfl
def tcf (t : Tk) : List Value := [.int .i64 t.kd, .int .i64 t.at_, .string ⟨t.tx.toArray⟩, .int .i64 t.nm]
theorem tcf_len (t : Tk) : (tcf t).length = 4 := rfl
theorem tcf_one (t : Tk) : ∀ u ∈ tcf t, u.oneCell' = true := fun u hu => by
  simp only [tcf, List.mem_cons, List.not_mem_nil, or_false] at hu
  rcases hu with rfl | rfl | rfl | rfl <;> rfl
theorem ap23 {w : World} {base : Nat} {v : Value} {l : List Tk} (h : OL tcf 4 w base 46 v l) {A : Option Addr} {m : Nat} {l' : List Tk} (hs : SL tcf 4 w A m l') (c : Nat) (hm : l.length + m ≤ 100000000) (hbase : base ≤ w.heap.size) :
    ∃ A' c' w', (Builtin.append_ #[42, 42] 42 #[v, .slice A m c]).run Tryz.prog w = .ok (.slice A' (l.length + m) c') w' ∧ OL tcf 4 w' base 46 (.slice A' (l.length + m) c') (l ++ l') ∧ (∀ B, B ≤ base → Below B w w') ∧
      (∀ k, k < w.heap.size → (∀ a, v ≠ .slice (some ⟨k, 0, none⟩) l.length a) → w'.heap[k]? = w.heap[k]?) :=
  OL.append tcf_len tcf_one (by omega) Tryz.underlying42 info36 rfl (by omega) h hs c hm hbase
theorem ap23_one (X : World) {base : Nat} {v : Value} {l : List Tk} (ho : OL tcf 4 X base 46 v l) (k a n : Int) (S : ByteArray) (x : List UInt8) (hS : S.data.toList = x) (b : Nat) (hb : b = X.heap.size) (hm : l.length ≤ 10000000) (hbase : base ≤ X.heap.size) :
    ∃ A' c' w', (Builtin.append_ #[42, 42] 42 #[v, .slice (some ⟨b, 0, none⟩) 1 1]).run Tryz.prog (X.alloc (.cells #[.int .i64 k, .int .i64 a, .string S, .int .i64 n] 46)) = .ok (.slice A' (l.length + 1) c') w' ∧
      OL tcf 4 w' base 46 (.slice A' (l.length + 1) c') (l ++ [⟨k, a, x, n⟩]) ∧ Below base X w' ∧ (∀ k, k < X.heap.size → (∀ a, v ≠ .slice (some ⟨k, 0, none⟩) l.length a) → w'.heap[k]? = X.heap[k]?) := by
  subst hb; subst hS
  obtain ⟨A', c', w', h1, h2, h3, h4⟩ := ap23 (ho.ext ((Ext.refl X).alloc _)) (SL.one (cf := tcf) (sz := 4) X ⟨k, a, S.data.toList, n⟩ #[.int .i64 k, .int .i64 a, .string S, .int .i64 n] rfl 46) 1 (by omega) (by simp; omega)
  refine ⟨A', c', w', h1, h2, Below.trans (Below.mono ((Ext.refl X).alloc _) hbase) (h3 base (Nat.le_refl _)), fun k hk hne => ?_⟩
  rw [h4 k (by simp; omega) hne]
  exact ((Ext.refl X).alloc _).block k hk
/-- What lexer.Tokens computes. -/
def lexT (s : List UInt8) : LexR := if 4000 < s.length then ⟨[], 4000, 2⟩ else lexW 0 s
def TokPost (W : World) (r : LexR) (e : Ending) (W' : World) : Prop := ∃ A c, e = .returned (.tuple #[.slice A r.l.length c, .int .i64 r.off, .int .i64 r.e]) ∧ SL tcf 4 W' A r.l.length r.l ∧ Ext W W' ∧ r.l.length ≤ c
/-! ### Steps -/
theorem skipB_true : ∀ l : List UInt8, skipB true l = skipB false (l.dropWhile nlB)
  | [] => rfl
  | c :: r => by
    by_cases h : c = 10
    · have e : nlB c = false := by simp [nlB, h]
      rw [List.dropWhile_cons_of_neg (by rw [e]; decide), skipB, skipB, if_pos h, if_pos h]
    · have e : nlB c = true := by simp [nlB, h]
      rw [List.dropWhile_cons_of_pos e, ← skipB_true r, skipB, if_neg h]
      by_cases h2 : c = 35
      · rw [if_pos h2]
      · rw [if_neg h2]; simp
theorem drop_twn (p : UInt8 → Bool) (l : List UInt8) : l.drop (twn p l) = l.dropWhile p := by
  induction l with
  | nil => rfl
  | cons c r ih =>
    cases h : p c with
    | true => rw [twn_go h, List.dropWhile_cons_of_pos h, Nat.add_comm, List.drop_succ_cons, ih]
    | false => rw [twn_stop h, List.dropWhile_cons_of_neg (by rw [h]; decide), List.drop_zero]
theorem lex_blank {a : Nat} {c : UInt8} {r : List UInt8} (h : blk c = true) : lexW a (c :: r) = lexW (a + 1) r := by
  apply lex_skip
  · rw [skipB]
    by_cases h1 : c = 10
    · rw [if_pos h1]
    · rw [if_neg h1, if_neg (by rintro rfl; revert h; decide), h]; rfl
  · rw [List.length_cons]; omega
theorem lex_comment {a : Nat} {c : UInt8} {r : List UInt8} (h : c = 35) : lexW a (c :: r) = lexW (a + twn nlB (c :: r)) ((c :: r).drop (twn nlB (c :: r))) := by
  have e : nlB c = true := by rw [h]; decide
  apply lex_skip
  · rw [drop_twn, List.dropWhile_cons_of_pos e, ← skipB_true, skipB, if_neg (by rw [h]; decide), if_pos h]
  · have := (List.takeWhile_sublist nlB (l := c :: r)).length_le
    rw [List.length_drop]
    have h2 : twn nlB (c :: r) ≤ (c :: r).length := this
    omega
theorem skip_none {c : UInt8} {r : List UInt8} (h : blk c = false) (h2 : c ≠ 35) : skipB false (c :: r) = c :: r := by
  have h3 : c ≠ 10 := by rintro rfl; revert h; decide
  rw [skipB, if_neg h3, if_neg h2, h]; rfl
theorem lex_tok_err {a : Nat} {c : UInt8} {r : List UInt8} {e : Int} (h : blk c = false) (h2 : c ≠ 35) (ht : tok1 (c :: r) = .err e) : lexW a (c :: r) = ⟨[], (a : Nat), e⟩ := by
  have hs := skip_none (r := r) h h2
  have := lex_err (k := a) (s := c :: r) (e := e) (by rw [hs]; simp) (by rw [hs]; exact ht)
  rw [this, hs, Nat.sub_self, Nat.add_zero]
theorem lex_tok_ok {a n : Nat} {c : UInt8} {r : List UInt8} {k v : Int} (h : blk c = false) (h2 : c ≠ 35) (ht : tok1 (c :: r) = .ok k n v) : lexW a (c :: r) = (lexW (a + n) ((c :: r).drop n)).put ⟨k, (a : Nat), (c :: r).take n, v⟩ := by
  have hs := skip_none (r := r) h h2
  have := lex_ok (k := a) (s := c :: r) (kd := k) (n := n) (v := v) (by rw [hs]; simp) (by rw [hs]; exact ht) (tok1_len ht).1
  rw [this, hs, Nat.sub_self, Nat.add_zero]
end Go.Proofs.YtnpenepdechkjaaGreatDoor

/- Trees of the rule language, and its parser in plain Lean. -/
namespace Go.Proofs.YtnpenepdechkjaaGreatDoor

inductive Tr where
  | nd (k n : Int) (s : List UInt8) (kids : List Tr)
inductive PR (α : Type) where
  | ok (v : α) (r : List Tk)
  | bad (r : List Tk) (e : Int)
def PR.bind {α β : Type} : PR α → (α → List Tk → PR β) → PR β
  | .ok v r, f => f v r
  | .bad r e, _ => .bad r e
@[simp] theorem PR.bind_ok {α β : Type} (v : α) (r : List Tk) (f : α → List Tk → PR β) : (PR.ok v r).bind f = f v r := rfl
@[simp] theorem PR.bind_bad {α β : Type} (r : List Tk) (e : Int) (f : α → List Tk → PR β) : (PR.bad r e).bind f = .bad r e := rfl
def tkE : Tk := ⟨0, 0, [], 0⟩
def hd (r : List Tk) : Tk := r.headD tkE
def wOr : List UInt8 := [111, 114]
def wAnd : List UInt8 := [97, 110, 100]
def wPlus : List UInt8 := [43]
def wMinus : List UInt8 := [45]
def wStar : List UInt8 := [42]
def wOpen : List UInt8 := [40]
def wClose : List UInt8 := [41]
def wComma : List UInt8 := [44]
def wIf : List UInt8 := [105, 102]
def wThen : List UInt8 := [116, 104, 101, 110]
def wElse : List UInt8 := [101, 108, 115, 101]
def wEnd : List UInt8 := [101, 110, 100]
def wNot : List UInt8 := [110, 111, 116]
def wTrue : List UInt8 := [116, 114, 117, 101]
def wFalse : List UInt8 := [102, 97, 108, 115, 101]
def wNext : List UInt8 := [110, 101, 120, 116]
def wPrev : List UInt8 := [112, 114, 101, 118]
def wRule : List UInt8 := [114, 117, 108, 101]
def wFrom : List UInt8 := [102, 114, 111, 109]
def wOn : List UInt8 := [111, 110]
def wDue : List UInt8 := [100, 117, 101]
def wUnless : List UInt8 := [117, 110, 108, 101, 115, 115]
def wSemi : List UInt8 := [59]
def wBrace : List UInt8 := [123]
def wBraceE : List UInt8 := [125]
def wDays : List UInt8 := [100, 97, 121, 115]
def wWeeks : List UInt8 := [119, 101, 101, 107, 115]
def wMonths : List UInt8 := [109, 111, 110, 116, 104, 115]
def wCourtdays : List UInt8 := [99, 111, 117, 114, 116, 100, 97, 121, 115]
def wDay : List UInt8 := [100, 97, 121]
def wServed : List UInt8 := [115, 101, 114, 118, 101, 100]
def wExtra : List UInt8 := [101, 120, 116, 114, 97]
def wBy : List UInt8 := [98, 121]
def wTo : List UInt8 := [116, 111]
def wCourt : List UInt8 := [99, 111, 117, 114, 116]
def wAmount : List UInt8 := [97, 109, 111, 117, 110, 116]
def wLater : List UInt8 := [108, 97, 116, 101, 114]
def wEarlier : List UInt8 := [101, 97, 114, 108, 105, 101, 114]
def wBetween : List UInt8 := [98, 101, 116, 119, 101, 101, 110]
def wLt : List UInt8 := [60]
def wLe : List UInt8 := [60, 61]
def wEq : List UInt8 := [61]
def wNe : List UInt8 := [33, 61]
def wGt : List UInt8 := [62]
def wGe : List UInt8 := [62, 61]
def cmpOps : List (List UInt8) := [wLt, wLe, wEq, wNe, wGt, wGe]
def units : List (List UInt8) := [wDays, wWeeks, wMonths, wCourtdays]
def fields : List (List UInt8) := [wDay, wServed, wExtra, wBy, wTo, wCourt, wAmount]
def functions : List (List UInt8) := [wNext, wPrev, wLater, wEarlier, wBetween]
def words : List (List UInt8) := [wRule, wFrom, wOn, wIf, wDue, wUnless, wElse, wTrue, wFalse, wNot, wAnd, wOr, wThen, wEnd]
def reserved : List (List UInt8) := words ++ (units ++ (fields ++ functions))
/-- The level of a binary operator. -/
def lvOf (x : List UInt8) : Nat := if x = wOr then 1 else if x = wAnd then 2 else if x ∈ cmpOps then 4 else if x = wPlus ∨ x = wMinus then 5 else if x = wStar then 6 else 0
def mustP (s : List UInt8) (r : List Tk) : PR Unit := if (hd r).tx = s then .ok () r.tail else .bad r 20
def tokP (k : Int) (r : List Tk) : PR Tk := if (hd r).kd = k then .ok (hd r) r.tail else .bad r 20
def nameP (r : List Tk) : PR (List UInt8) := if (hd r).tx ∈ reserved then .bad r 20 else (tokP 1 r).bind fun t r => .ok t.tx r
def opensP (s : List UInt8) (o : Nat) (r : List Tk) : PR Unit := if (hd r).tx = s then (if o = 12 then .bad r 2 else .ok () r.tail) else .bad r 20
/-- The node of a binary operator, behind whose operands there may be a unit. -/
def joinP (lv : Nat) (op : List UInt8) (a b : Tr) (r : List Tk) : Tr × List Tk :=
  if lv = 5 ∧ (hd r).tx ∈ units then (.nd (if op = wMinus then 8 else 7) 0 (hd r).tx [a, b], r.tail) else (.nd 6 0 op [a, b], r)
def loopP (E : Nat → Nat → List Tk → PR Tr) (lv o : Nat) : Nat → Tr → List Tk → PR Tr
  | 0, n, r => .ok n r
  | g + 1, n, r => if lvOf (hd r).tx = lv then (E (lv + 1) o r.tail).bind fun b r2 =>
      if lv = 4 then .ok (joinP lv (hd r).tx n b r2).1 (joinP lv (hd r).tx n b r2).2 else loopP E lv o g (joinP lv (hd r).tx n b r2).1 (joinP lv (hd r).tx n b r2).2
    else .ok n r
def argsN (s : List UInt8) : Nat := if s = wNext ∨ s = wPrev then 1 else 2
def callP (E : Nat → Nat → List Tk → PR Tr) (o : Nat) (r : List Tk) : PR Tr :=
  (tokP 1 r).bind fun t r => (opensP wOpen o r).bind fun _ r => (E 1 (o + 1) r).bind fun a r =>
    if argsN t.tx = 1 then (mustP wClose r).bind fun _ r => .ok (.nd 10 0 t.tx [a]) r
    else (mustP wComma r).bind fun _ r => (E 1 (o + 1) r).bind fun b r => (mustP wClose r).bind fun _ r => .ok (.nd 10 0 t.tx [a, b]) r
def choiceP (E : Nat → Nat → List Tk → PR Tr) (o : Nat) (r : List Tk) : PR Tr :=
  (opensP wIf o r).bind fun _ r => (E 1 (o + 1) r).bind fun a r => (mustP wThen r).bind fun _ r => (E 1 (o + 1) r).bind fun b r => (mustP wElse r).bind fun _ r => (E 1 (o + 1) r).bind fun c r => (mustP wEnd r).bind fun _ r => .ok (.nd 9 0 [] [a, b, c]) r
def primP (E : Nat → Nat → List Tk → PR Tr) (o : Nat) (r : List Tk) : PR Tr :=
  if (hd r).kd = 2 then .ok (.nd 1 (hd r).nm [] []) r.tail
  else if (hd r).kd = 3 then .ok (.nd 3 (hd r).nm [] []) r.tail
  else if (hd r).tx = wTrue then .ok (.nd 2 1 [] []) r.tail
  else if (hd r).tx = wFalse then .ok (.nd 2 0 [] []) r.tail
  else if (hd r).tx = wOpen then (opensP wOpen o r).bind fun _ r => (E 1 (o + 1) r).bind fun n r => (mustP wClose r).bind fun _ r => .ok n r
  else if (hd r).tx = wIf then choiceP E o r
  else if (hd r).tx ∈ functions then callP E o r
  else if (hd r).tx ∈ fields then .ok (.nd 4 0 (hd r).tx []) r.tail
  else .bad r 20
def stepP (E : Nat → Nat → List Tk → PR Tr) (lv o : Nat) (r : List Tk) : PR Tr :=
  if lv = 3 ∧ (hd r).tx = wNot ∨ lv = 7 ∧ (hd r).tx = wMinus then (opensP (hd r).tx o r).bind fun _ r2 => (E lv (o + 1) r2).bind fun n r3 => .ok (.nd 5 0 (hd r).tx [n]) r3
  else if lv = 8 then primP E o r
  else (E (lv + 1) o r).bind fun n r2 => loopP E lv o r2.length n r2
/-- An expression of a level, with fuel. -/
def exprP : Nat → Nat → Nat → List Tk → PR Tr
  | 0 => fun _ _ r => .bad r 0
  | f + 1 => stepP (exprP f)
structure Rl where
  name : List UInt8
  from_ : Int
  on_ : List UInt8
  if_ : Tr
  due : Tr
  unless_ : List UInt8
  else_ : List UInt8
def trTrue : Tr := .nd 2 1 [] []
/-- An optional part: a word, what is read, and a semicolon. -/
def partP {α : Type} (w : List UInt8) (none_ : α) (rd : List Tk → PR α) (r : List Tk) : PR α :=
  if (hd r).tx = w then (rd r.tail).bind fun x r => (mustP wSemi r).bind fun _ r => .ok x r else .ok none_ r
def ruleP (E : List Tk → PR Tr) (r : List Tk) : PR Rl :=
  (mustP wRule r).bind fun _ r => (nameP r).bind fun nm r => (mustP wFrom r).bind fun _ r => (tokP 3 r).bind fun d r => (mustP wBrace r).bind fun _ r =>
    (mustP wOn r).bind fun _ r => (nameP r).bind fun on_ r => (mustP wSemi r).bind fun _ r => (partP wIf trTrue E r).bind fun i r =>
      (mustP wDue r).bind fun _ r => (E r).bind fun due r => (mustP wSemi r).bind fun _ r => (partP wUnless [] nameP r).bind fun u r => (partP wElse [] nameP r).bind fun e r =>
        (mustP wBraceE r).bind fun _ r => .ok ⟨nm, d.nm, on_, i, due, u, e⟩ r
def rulesP (E : List Tk → PR Tr) : Nat → List Rl → List Tk → PR (List Rl)
  | 0, l, r => .ok l r
  | g + 1, l, r => if (hd r).kd = 0 then .ok l r else (ruleP E r).bind fun x r2 => rulesP E g (l ++ [x]) r2
end Go.Proofs.YtnpenepdechkjaaGreatDoor

/- Plain law: cut off texts, texts that are woven anew, what stands between tokens. -/
namespace Go.Proofs.YtnpenepdechkjaaGreatDoor
open Go

/-! ### An error stays where it is -/
theorem lex_sep_err (c : UInt8) (t : List UInt8) (hc : sepc c = true) : ∀ (m : Nat) (s : List UInt8), s.length ≤ m → ∀ k, (lexW k s).e ≠ 0 → lexW k (s ++ c :: t) = lexW k s := by
  have sep : SepHead (c :: t) := fun x hx => by
    obtain rfl : c = x := by simpa using hx
    exact hc
  intro m
  induction m with
  | zero =>
    intro s hs k he
    obtain rfl : s = [] := List.length_eq_zero_iff.1 (by omega)
    rw [lex_end (k := k) (s := []) rfl] at he
    exact absurd rfl he
  | succ m ih =>
    intro s hs k he
    rcases lex_cases k s with ⟨h0, h1⟩ | ⟨e, h0, ht, _, h1⟩ | ⟨kd, n, v, h0, ht, hn, hnl, h1⟩
    · rw [h1] at he; exact absurd rfl he
    · have hs2 := skipB_app2 false s (c :: t) h0
      rw [h1, lex_err (s := s ++ c :: t) (by rw [hs2]; simp) (by rw [hs2, tok1_app h0 sep]; exact ht), hs2]
      have := skipB_len false s
      congr 2
      simp only [List.length_append]
      omega
    · have hs2 := skipB_app2 false s (c :: t) h0
      have hl := skipB_len false s
      have hr := rest_lt h0 hn
      rw [h1, put_e] at he
      have g := ih ((skipB false s).drop n) (by omega) _ he
      rw [h1, lex_ok (s := s ++ c :: t) (by rw [hs2]; simp) (by rw [hs2, tok1_app h0 sep]; exact ht) hn, hs2, List.drop_append_of_le_length hnl, List.take_append_of_le_length hnl]
      rw [show (s ++ c :: t).length - (skipB false s ++ c :: t).length = s.length - (skipB false s).length by simp only [List.length_append]; omega, g]
theorem skipB_take : ∀ (cm : Bool) (s : List UInt8) (m : Nat), skipB cm (s.take (s.length - (skipB cm s).length + m)) = (skipB cm s).take m
  | _, [], _ => by simp [skipB]
  | cm, c :: r, m => by
    have step : ∀ b, skipB cm (c :: r) = skipB b r → (∀ x, skipB cm (c :: x) = skipB b x) → skipB cm ((c :: r).take ((c :: r).length - (skipB cm (c :: r)).length + m)) = (skipB cm (c :: r)).take m := fun b h hx => by
      have h1 := skipB_len b r
      rw [h, List.length_cons, show r.length + 1 - (skipB b r).length + m = (r.length - (skipB b r).length + m) + 1 by omega, List.take_succ_cons, hx]
      exact skipB_take b r m
    by_cases hc : c = 10
    · exact step false (by rw [skipB, if_pos hc]) (fun x => by rw [skipB, if_pos hc])
    · by_cases h35 : c = 35
      · exact step true (by rw [skipB, if_neg hc, if_pos h35]) (fun x => by rw [skipB, if_neg hc, if_pos h35])
      · by_cases hb : (cm || blk c) = true
        · exact step cm (by rw [skipB, if_neg hc, if_neg h35, if_pos hb]) (fun x => by rw [skipB, if_neg hc, if_neg h35, if_pos hb])
        · have e : ∀ x, skipB cm (c :: x) = c :: x := fun x => by rw [skipB, if_neg hc, if_neg h35, if_neg hb]
          rw [e r, Nat.sub_self, Nat.zero_add]
          cases m with
          | zero => rfl
          | succ m => rw [List.take_succ_cons, e]
/-- Ahead of an error there is none. -/
theorem lex_before : ∀ (m : Nat) (s : List UInt8), s.length ≤ m → ∀ k, (lexW k s).e ≠ 0 → ∃ n, n < s.length ∧ (lexW k s).off = (k + n : Nat) ∧ (lexW k s).l = [] ∧ (lexW k (s.take n)).e = 0 := by
  intro m
  induction m with
  | zero =>
    intro s hs k he
    obtain rfl : s = [] := List.length_eq_zero_iff.1 (by omega)
    rw [lex_end (k := k) (s := []) rfl] at he
    exact absurd rfl he
  | succ m ih =>
    intro s hs k he
    have hl := skipB_len false s
    rcases lex_cases k s with ⟨h0, h1⟩ | ⟨e, h0, ht, _, h1⟩ | ⟨kd, n, v, h0, ht, hn, hnl, h1⟩
    · rw [h1] at he; exact absurd rfl he
    · have hp : 0 < (skipB false s).length := List.length_pos_iff.2 h0
      refine ⟨s.length - (skipB false s).length, by omega, by rw [h1], by rw [h1], ?_⟩
      have := skipB_take false s 0
      rw [Nat.add_zero, List.take_zero] at this
      rw [lex_end this]
    · have hr := rest_lt h0 hn
      rw [h1, put_e] at he
      obtain ⟨n', g1, g2, g3, g4⟩ := ih ((skipB false s).drop n) (by omega) _ he
      rw [List.length_drop] at g1
      refine ⟨s.length - (skipB false s).length + (n + n'), by omega, ?_, ?_, ?_⟩
      · rw [h1, put_err he, g2]; congr 1; omega
      · rw [h1, put_err he, g3]
      · have hk := skipB_take false s (n + n')
        have hne : (skipB false s).take (n + n') ≠ [] := by
          intro e
          have := congrArg List.length e
          rw [List.length_take, List.length_nil, Nat.min_eq_left (by omega)] at this
          omega
        rw [lex_ok (s := s.take (s.length - (skipB false s).length + (n + n'))) (by rw [hk]; exact hne) (by rw [hk]; exact tok1_take ht (by omega)) hn, put_e, hk, List.length_take, List.length_take, List.drop_take, show n + n' - n = n' by omega]
        rw [show k + (min (s.length - (skipB false s).length + (n + n')) s.length - min (n + n') (skipB false s).length) + n = k + (s.length - (skipB false s).length) + n by omega]
        exact g4

/-! ### Tokens but for their places -/
def tri (t : Tk) : Int × List UInt8 × Int := (t.kd, t.tx, t.nm)
def endP : Int × List UInt8 × Int := (0, [], 0)
theorem lex_shift : ∀ (m : Nat) (s : List UInt8), s.length ≤ m → ∀ k k', (lexW k s).e = (lexW k' s).e ∧ (lexW k s).l.map tri = (lexW k' s).l.map tri := by
  intro m
  induction m with
  | zero =>
    intro s hs k k'
    obtain rfl : s = [] := List.length_eq_zero_iff.1 (by omega)
    rw [lex_end (k := k) (s := []) rfl, lex_end (k := k') (s := []) rfl]
    exact ⟨rfl, rfl⟩
  | succ m ih =>
    intro s hs k k'
    by_cases h0 : skipB false s = []
    · rw [lex_end h0, lex_end h0]; exact ⟨rfl, rfl⟩
    · cases ht : tok1 (skipB false s) with
      | err e => rw [lex_err h0 ht, lex_err h0 ht]; exact ⟨rfl, rfl⟩
      | ok kd n v =>
        have hn := (tok1_len ht).1
        have hr := rest_lt h0 hn
        obtain ⟨g1, g2⟩ := ih ((skipB false s).drop n) (by omega) (k + (s.length - (skipB false s).length) + n) (k' + (s.length - (skipB false s).length) + n)
        rw [lex_ok h0 ht hn, lex_ok (k := k') h0 ht hn, put_e, put_e]
        refine ⟨g1, ?_⟩
        by_cases he : (lexW (k + (s.length - (skipB false s).length) + n) ((skipB false s).drop n)).e = 0
        · rw [put_ok he, put_ok (g1 ▸ he)]
          simp only [List.map_cons, g2]; rfl
        · rw [put_err he, put_err (g1 ▸ he), g2]
/-- The tokens of a text without an error. -/
def TokOK (t : Tk) : Prop := t.tx ≠ [] ∧ t.kd ≠ 0 ∧ tok1 t.tx = .ok t.kd t.tx.length t.nm
theorem tok1_kind {s : List UInt8} {kd : Int} {n : Nat} {v : Int} (h : tok1 s = .ok kd n v) : 1 ≤ kd ∧ kd ≤ 4 := by
  cases s with
  | nil => cases h
  | cons c r =>
    rw [tok1_cons] at h
    repeat' split at h
    all_goals first | (injection h with h1 _ _; subst h1; decide) | cases h
theorem tok1_ok {s : List UInt8} {kd : Int} {n : Nat} {v : Int} (h : tok1 s = .ok kd n v) (a : Int) : TokOK ⟨kd, a, s.take n, v⟩ := by
  obtain ⟨h1, h2⟩ := tok1_len h
  have hl : (s.take n).length = n := by rw [List.length_take]; omega
  refine ⟨fun e => ?_, ?_, ?_⟩
  · have := congrArg List.length e
    rw [hl] at this; simp at this; omega
  · have := tok1_kind h; show kd ≠ 0; omega
  · show tok1 (s.take n) = .ok kd (s.take n).length v
    rw [hl]; exact tok1_take h (Nat.le_refl _)
theorem lex_toks : ∀ (m : Nat) (s : List UInt8), s.length ≤ m → ∀ k, (lexW k s).e = 0 → (lexW k s).off = 0 ∧ ∃ ts, (lexW k s).l = ts ++ [endT (k + s.length)] ∧ ∀ t ∈ ts, TokOK t := by
  intro m
  induction m with
  | zero =>
    intro s hs k he
    obtain rfl : s = [] := List.length_eq_zero_iff.1 (by omega)
    rw [lex_end (k := k) (s := []) rfl]
    exact ⟨rfl, [], rfl, fun t h => by cases h⟩
  | succ m ih =>
    intro s hs k he
    have hl := skipB_len false s
    rcases lex_cases k s with ⟨h0, h1⟩ | ⟨e, h0, ht, hne, h1⟩ | ⟨kd, n, v, h0, ht, hn, hnl, h1⟩
    · rw [h1]; exact ⟨rfl, [], rfl, fun t h => by cases h⟩
    · rw [h1] at he; exact absurd he hne
    · have hr := rest_lt h0 hn
      rw [h1, put_e] at he
      obtain ⟨g1, ts, g2, g3⟩ := ih ((skipB false s).drop n) (by omega) _ he
      rw [h1, put_ok he]
      refine ⟨g1, ⟨kd, (k + (s.length - (skipB false s).length) : Nat), (skipB false s).take n, v⟩ :: ts, ?_, ?_⟩
      · show _ :: _ = _
        rw [g2, List.length_drop, show k + (s.length - (skipB false s).length) + n + ((skipB false s).length - n) = k + s.length by omega]
        rfl
      · intro t ht2
        rcases List.mem_cons.1 ht2 with rfl | h
        · exact tok1_ok ht _
        · exact g3 t h

/-! ### Weaving -/
def weave : List (List UInt8 × List UInt8) → List UInt8 → List UInt8
  | [], u => u
  | (g, x) :: ts, u => g ++ (x ++ weave ts u)
def Gap (g : List UInt8) : Prop := (∀ u, skipB false (g ++ u) = skipB false u) ∧ ∃ c r, g = c :: r ∧ sepc c = true
theorem weave_sep {ts : List (List UInt8 × List UInt8)} {u : List UInt8} (hg : ∀ p ∈ ts, Gap p.1) (hu : SepHead u) : SepHead (weave ts u) := by
  cases ts with
  | nil => exact hu
  | cons p ts =>
    obtain ⟨g, x⟩ := p
    obtain ⟨c, r, hgc, hc⟩ := (hg (g, x) (by simp)).2
    simp only at hgc
    subst hgc
    intro d hd
    obtain rfl : c = d := by simpa [weave] using hd
    exact hc
theorem skipB_gap {g t : List UInt8} (h : skipB false (g ++ t) = skipB false t) (k : Nat) : lexW k (g ++ t) = lexW (k + g.length) t := lex_skip h (by simp; omega)
theorem weave_lex {u : List UInt8} (hu : SepHead u) (hu0 : skipB false u = []) : ∀ (ts : List (List UInt8 × Tk)), (∀ p ∈ ts, Gap p.1 ∧ TokOK p.2) → ∀ k,
    (lexW k (weave (ts.map fun p => (p.1, p.2.tx)) u)).e = 0 ∧ (lexW k (weave (ts.map fun p => (p.1, p.2.tx)) u)).l.map tri = ts.map (fun p => tri p.2) ++ [endP]
  | [], _, k => by
    show (lexW k u).e = 0 ∧ (lexW k u).l.map tri = [endP]
    rw [lex_end hu0]; exact ⟨rfl, rfl⟩
  | (g, t) :: ts, h, k => by
    obtain ⟨hg, ht1, ht0, ht2⟩ := h (g, t) (by simp)
    have hr : ∀ p ∈ ts, Gap p.1 ∧ TokOK p.2 := fun p hp => h p (List.mem_cons_of_mem _ hp)
    have hsep : SepHead (weave (ts.map fun p => (p.1, p.2.tx)) u) := weave_sep (fun p hp => by
      obtain ⟨q, hq, rfl⟩ := List.mem_map.1 hp
      exact (hr q hq).1) hu
    show (lexW k (g ++ (t.tx ++ weave (ts.map fun p => (p.1, p.2.tx)) u))).e = 0 ∧ (lexW k (g ++ (t.tx ++ weave (ts.map fun p => (p.1, p.2.tx)) u))).l.map tri = tri t :: (ts.map (fun p => tri p.2) ++ [endP])
    have hta : tok1 (t.tx ++ weave (ts.map fun p => (p.1, p.2.tx)) u) = .ok t.kd t.tx.length t.nm := by rw [tok1_app ht1 hsep]; exact ht2
    have hsk := skip_tok hta
    have hn := (tok1_len ht2).1
    rw [skipB_gap (hg.1 _), lex_ok (by rw [hsk]; simp [ht1]) (by rw [hsk]; exact hta) hn, hsk, Nat.sub_self, Nat.add_zero, List.drop_left, List.take_left]
    obtain ⟨i1, i2⟩ := weave_lex hu hu0 ts hr (k + g.length + t.tx.length)
    rw [put_e, put_ok i1]
    refine ⟨i1, ?_⟩
    rw [List.map_cons, i2]
    rfl
theorem gap_blank : Gap [32] := ⟨fun u => by rw [List.singleton_append, skipB, if_neg (by decide), if_neg (by decide)]; rfl, 32, [], rfl, by decide⟩

/-! ### White space and comments alone -/
def idleP : Bool → List UInt8 → Bool
  | _, [] => true
  | cm, c :: r => if !(decide (c = 35) || (cm && !decide (c = 10))) && !blk c then false else idleP (decide (c = 35) || (cm && !decide (c = 10))) r
theorem idle_skip : ∀ (cm : Bool) (s : List UInt8), idleP cm (s.take (s.length - (skipB cm s).length)) = true
  | _, [] => rfl
  | cm, c :: r => by
    have step : ∀ b, skipB cm (c :: r) = skipB b r → (∀ x, idleP cm (c :: x) = idleP b x) → idleP cm ((c :: r).take ((c :: r).length - (skipB cm (c :: r)).length)) = true := fun b h hx => by
      have h1 := skipB_len b r
      rw [h, List.length_cons, show r.length + 1 - (skipB b r).length = (r.length - (skipB b r).length) + 1 by omega, List.take_succ_cons, hx]
      exact idle_skip b r
    by_cases hc : c = 10
    · exact step false (by rw [skipB, if_pos hc]) (fun x => by rw [idleP, hc]; simp [blk])
    · by_cases h35 : c = 35
      · exact step true (by rw [skipB, if_neg hc, if_pos h35]) (fun x => by rw [idleP, h35]; simp)
      · by_cases hb : (cm || blk c) = true
        · refine step cm (by rw [skipB, if_neg hc, if_neg h35, if_pos hb]) (fun x => ?_)
          rw [idleP]
          cases cm with
          | true => simp [hc, h35]
          | false => have hb2 : blk c = true := by simpa using hb
                     simp [h35, hb2]
        · have e : skipB cm (c :: r) = c :: r := by rw [skipB, if_neg hc, if_neg h35, if_neg hb]
          rw [e, Nat.sub_self]; rfl
end Go.Proofs.YtnpenepdechkjaaGreatDoor

/- Lists of tokens as the lexer gives them; words within lists of words. -/
namespace Go.Proofs.YtnpenepdechkjaaGreatDoor
open Go

/-- Tokens as the lexer gives them: at the end the end. -/
def WfT (l : List Tk) : Prop := ∃ ts k, l = ts ++ [endT k] ∧ ∀ t ∈ ts, TokOK t
theorem WfT.pos {l : List Tk} (h : WfT l) : 0 < l.length := by obtain ⟨ts, k, rfl, _⟩ := h; simp
theorem WfT.all {l : List Tk} (h : WfT l) {t : Tk} (ht : t ∈ l) : TokOK t ∨ (t.kd = 0 ∧ t.tx = []) := by
  obtain ⟨ts, k, rfl, h2⟩ := h
  rcases List.mem_append.1 ht with h3 | h3
  · exact .inl (h2 t h3)
  · obtain rfl : t = endT k := by simpa using h3
    exact .inr ⟨rfl, rfl⟩
theorem WfT.tail {t : Tk} {l : List Tk} (h : WfT (t :: l)) (hk : t.kd ≠ 0) : WfT l := by
  obtain ⟨ts, k, e, h2⟩ := h
  cases ts with
  | nil =>
    simp only [List.nil_append, List.cons.injEq] at e
    obtain ⟨rfl, _⟩ := e
    exact absurd rfl hk
  | cons a ts =>
    simp only [List.cons_append, List.cons.injEq] at e
    obtain ⟨rfl, rfl⟩ := e
    exact ⟨ts, k, rfl, fun t ht => h2 t (List.mem_cons_of_mem _ ht)⟩
theorem WfT.hd {l : List Tk} (h : WfT l) : ∃ t r, l = t :: r := by
  have := h.pos
  cases l with
  | nil => simp at this
  | cons t r => exact ⟨t, r, rfl⟩
theorem tokOK_cons {t : Tk} (h : TokOK t) : ∃ c r, t.tx = c :: r ∧ tok1 (c :: r) = .ok t.kd t.tx.length t.nm := by
  obtain ⟨h1, _, h3⟩ := h
  cases hx : t.tx with
  | nil => exact absurd hx h1
  | cons c r => exact ⟨c, r, rfl, by rw [hx] at h3; exact h3⟩
/-- A token that begins with a letter is a word. -/
theorem tokOK_word {t : Tk} (h : TokOK t) {c : UInt8} {r : List UInt8} (hx : t.tx = c :: r) (hc : low c = true) : t.kd = 1 := by
  obtain ⟨c', r', hx', h3⟩ := tokOK_cons h
  rw [hx] at hx'
  injection hx' with e1 e2
  subst e1 e2
  rw [tok1_cons, if_pos hc] at h3
  split at h3
  · cases h3
  · injection h3 with h4; exact h4.symm
theorem twp_all {p : UInt8 → Bool} : ∀ (l : List UInt8), (l.takeWhile p).length = l.length → l.all p = true
  | [], _ => rfl
  | c :: r, h => by
    cases hc : p c with
    | false => rw [List.takeWhile_cons, hc] at h; simp at h
    | true =>
      rw [List.takeWhile_cons, hc] at h
      simp only [if_true, List.length_cons, Nat.add_right_cancel_iff] at h
      rw [List.all_cons, hc, twp_all r h]; rfl
theorem all_no32 {p : UInt8 → Bool} (hp : p 32 = false) {l : List UInt8} (h : l.all p = true) : (32 : UInt8) ∉ l := fun hm => by
  have := List.all_eq_true.1 h 32 hm
  rw [hp] at this; cases this
/-- No token's text holds a blank. -/
theorem tokOK_no32 {t : Tk} (h : TokOK t) : (32 : UInt8) ∉ t.tx := by
  obtain ⟨c, r, hx, h3⟩ := tokOK_cons h
  rw [hx] at h3 ⊢
  rw [tok1_cons] at h3
  split at h3
  · split at h3
    · cases h3
    · injection h3 with _ h5 _
      exact all_no32 (by decide) (twp_all _ h5)
  · split at h3
    · split at h3
      · cases h3
      · split at h3
        · cases h3
        · injection h3 with _ h5 _
          exact all_no32 (by decide) (twp_all _ h5)
    · split at h3
      · rename_i h64
        subst h64
        split at h3
        · rename_i hd
          split at h3
          · injection h3 with _ h5 _
            intro hm
            obtain ⟨i, hi⟩ := List.getElem?_of_mem hm
            have hlen := (List.getElem?_eq_some_iff.1 hi).1
            by_cases i0 : i = 0
            · subst i0; simp at hi
            · obtain ⟨c, hc, h6⟩ := dated_at hd (i := i) (by omega) (by omega)
              rw [hi] at hc
              injection hc with hc
              subst hc
              rcases h6 with h6 | h6
              · exact absurd h6 (by decide)
              · exact absurd h6 (by decide)
          · cases h3
        · cases h3
      · split at h3
        · cases h3
        · injection h3 with _ h5 _
          rw [symN_cons] at h5
          split at h5
          · rename_i h6
            cases r with
            | nil => simp at h6
            | cons d r =>
              simp only [List.head?_cons, Option.some.injEq] at h6
              have : r = [] := by simpa using h5.symm
              subst this
              obtain ⟨h7, rfl⟩ := h6
              rcases h7 with rfl | rfl | rfl <;> decide
          · split at h5
            · rename_i h6
              have : r = [] := by simpa using h5.symm
              subst this
              rcases h6 with rfl | rfl | rfl | rfl | rfl | rfl | rfl | rfl | rfl | rfl | rfl | rfl <;> decide
            · simp at h5
theorem WfT.no32 {l : List Tk} (h : WfT l) {t : Tk} (ht : t ∈ l) : (32 : UInt8) ∉ t.tx := by
  rcases h.all ht with h1 | ⟨_, h2⟩
  · exact tokOK_no32 h1
  · rw [h2]; simp
theorem WfT.kd0 {l : List Tk} (h : WfT l) {t : Tk} (ht : t ∈ l) (hx : t.tx ≠ []) : t.kd ≠ 0 := by
  rcases h.all ht with h1 | ⟨_, h2⟩
  · exact h1.2.1
  · exact absurd h2 hx
theorem WfT.word {l : List Tk} (h : WfT l) {t : Tk} (ht : t ∈ l) {c : UInt8} {r : List UInt8} (hx : t.tx = c :: r) (hc : low c = true) : t.kd = 1 := by
  rcases h.all ht with h1 | ⟨_, h2⟩
  · exact tokOK_word h1 hx hc
  · rw [h2] at hx; cases hx
/-! ### Words within lists of words -/
def Jw : List (List UInt8) → List UInt8
  | [] => [32]
  | w :: ws => 32 :: (w ++ Jw ws)
theorem contains_cons (b : UInt8) (l sub : List UInt8) : Lib.contains (b :: l) sub = (sub.isPrefixOf (b :: l) || Lib.contains l sub) := by
  unfold Lib.contains
  rw [Lib.index]
  have h := Lib.index_ge l sub
  cases hp : sub.isPrefixOf (b :: l) with
  | true => simp
  | false =>
    simp only [Bool.false_eq_true, if_false, Bool.false_or]
    by_cases h1 : Lib.index l sub = -1
    · rw [h1]; simp
    · have : (Lib.index l sub == -1) = false := by simpa using h1
      rw [this]
      simp only [Bool.false_eq_true, if_false]
      rw [decide_eq_decide]; omega
theorem pre_word (rest : List UInt8) : ∀ (s w : List UInt8), (32 : UInt8) ∉ s → (32 : UInt8) ∉ w → (s ++ [32]).isPrefixOf (w ++ 32 :: rest) = decide (s = w)
  | [], [], _, _ => by simp
  | [], c :: w, _, hw => by
    have : ¬ (32 : UInt8) = c := fun e => hw (by rw [← e]; exact List.mem_cons_self ..)
    simp [List.isPrefixOf, this]
  | c :: s, [], hs, _ => by
    have : ¬ c = 32 := fun e => hs (by rw [← e]; exact List.mem_cons_self ..)
    simp [List.isPrefixOf, this]
  | c :: s, d :: w, hs, hw => by
    have ih := pre_word rest s w (fun h => hs (List.mem_cons_of_mem _ h)) (fun h => hw (List.mem_cons_of_mem _ h))
    simp only [List.cons_append, List.isPrefixOf_cons_cons, ih]
    by_cases h : c = d
    · subst h; simp
    · simp [h]
theorem Jw_head : ∀ ws, ∃ r, Jw ws = 32 :: r
  | [] => ⟨[], rfl⟩
  | w :: ws => ⟨w ++ Jw ws, rfl⟩
theorem contains_word (s l : List UInt8) : ∀ (w : List UInt8), (32 : UInt8) ∉ w → Lib.contains (w ++ l) (32 :: (s ++ [32])) = Lib.contains l (32 :: (s ++ [32]))
  | [], _ => rfl
  | c :: w, hw => by
    have : ¬ (32 : UInt8) = c := fun e => hw (by rw [← e]; exact List.mem_cons_self ..)
    rw [List.cons_append, contains_cons, contains_word s l w (fun h => hw (List.mem_cons_of_mem _ h))]
    simp [this]
theorem contains_J (s : List UInt8) (hs : (32 : UInt8) ∉ s) (hne : s ≠ []) : ∀ (ws : List (List UInt8)), (∀ w ∈ ws, (32 : UInt8) ∉ w) → Lib.contains (Jw ws) (32 :: (s ++ [32])) = decide (s ∈ ws)
  | [], _ => by
    rw [Jw, contains_cons]
    cases s with
    | nil => exact absurd rfl hne
    | cons c s => simp [Lib.contains, Lib.index]
  | w :: ws, hw => by
    obtain ⟨r, hr⟩ := Jw_head ws
    have hw1 := hw w (List.mem_cons_self ..)
    rw [Jw, contains_cons, contains_word s (Jw ws) w hw1, contains_J s hs hne ws (fun x hx => hw x (List.mem_cons_of_mem _ hx))]
    rw [hr, List.isPrefixOf_cons_cons, pre_word r s w hs hw1]
    simp
end Go.Proofs.YtnpenepdechkjaaGreatDoor

/- Trees and the parser's state in memory. -/
namespace Go.Proofs.YtnpenepdechkjaaGreatDoor
open Go Go.RowKit

/-- The head of a node in memory. -/
structure Nd where
  k : Int
  n : Int
  s : ByteArray
  A : Option Addr
  m : Nat
  c : Nat
def ndcf (h : Nd) : List Value := [.int .i64 h.k, .int .i64 h.n, .string h.s, .slice h.A h.m h.c]
def Nd.val (h : Nd) : Value := .agg #[.int .i64 h.k, .int .i64 h.n, .string h.s, .slice h.A h.m h.c]
theorem ndcf_len (h : Nd) : (ndcf h).length = 4 := rfl
theorem ndcf_one (h : Nd) : ∀ u ∈ ndcf h, u.oneCell' = true := fun u hu => by
  simp only [ndcf, List.mem_cons, List.not_mem_nil, or_false] at hu
  rcases hu with rfl | rfl | rfl | rfl <;> rfl
/-- d is the head of the tree t, all of whose rows lie in blocks of which P holds. -/
inductive Rep (W : World) (P : Nat → Prop) : Nd → Tr → Prop
  | mk (k n : Int) (s : List UInt8) (A : Option Addr) (c : Nat) (hs : List Nd) (ks : List Tr) (h0 : ∀ x, A = some x → P x.block ∧ x.block < W.heap.size) (h1 : SL ndcf 4 W A hs.length hs) (h2 : hs.length = ks.length)
      (h3 : ∀ (i : Nat) (h : Nd) (t : Tr), hs[i]? = some h → ks[i]? = some t → Rep W P h t) : Rep W P ⟨k, n, ⟨s.toArray⟩, A, hs.length, c⟩ (.nd k n s ks)
theorem SL.blocks {α : Type} {cf : α → List Value} {sz : Nat} {W W' : World} {A : Option Addr} {m : Nat} {l : List α} (h : SL cf sz W A m l) (hk : ∀ x, A = some x → x.block < W.heap.size → W'.heap[x.block]? = W.heap[x.block]?) : SL cf sz W' A m l := by
  refine ⟨h.1, fun h0 => ?_⟩
  obtain ⟨b, off, e, hb, hc⟩ := h.2 h0
  have he := hk _ e hb
  simp only at he
  refine ⟨b, off, e, ?_, fun i x hx j u hu => ?_⟩
  · have h5 : W.heap[b]? ≠ none := by rw [Array.getElem?_eq_getElem hb]; simp
    rw [← he] at h5
    by_cases h6 : b < W'.heap.size
    · exact h6
    · exact absurd (Array.getElem?_eq_none (by omega)) h5
  · rw [World.cell?_of_block (a := ⟨b, _, none⟩) he]; exact hc i x hx j u hu
theorem Rep.keep {W W' : World} {P : Nat → Prop} {d : Nd} {t : Tr} (h : Rep W P d t) (hsz : W.heap.size ≤ W'.heap.size) (hk : ∀ k, P k → k < W.heap.size → W'.heap[k]? = W.heap[k]?) : Rep W' P d t := by
  induction h with
  | mk k n s A c hs ks h0 h1 h2 _ ih => exact .mk k n s A c hs ks (fun x hx => ⟨(h0 x hx).1, Nat.lt_of_lt_of_le (h0 x hx).2 hsz⟩) (h1.blocks fun x hx hl => hk _ (h0 x hx).1 hl) h2 ih
theorem Rep.mono {W : World} {P Q : Nat → Prop} {d : Nd} {t : Tr} (h : Rep W P d t) (hq : ∀ k, P k → k < W.heap.size → Q k) : Rep W Q d t := by
  induction h with
  | mk k n s A c hs ks h0 h1 h2 _ ih => exact .mk k n s A c hs ks (fun x hx => ⟨hq _ (h0 x hx).1 (h0 x hx).2, (h0 x hx).2⟩) h1 h2 ih
theorem Rep.ext {W W' : World} {P : Nat → Prop} {d : Nd} {t : Tr} (h : Rep W P d t) (hx : Ext W W') : Rep W' P d t := h.keep hx.lt fun k _ hk => hx.block k hk
theorem Rep.leaf (W : World) (P : Nat → Prop) (k n : Int) (s : List UInt8) : Rep W P ⟨k, n, ⟨s.toArray⟩, none, 0, 0⟩ (.nd k n s []) :=
  .mk k n s none 0 [] [] (fun _ h => by cases h) (SL.nil W) rfl (fun i h t hh => by simp at hh)
/-- The state of the parser in its block. -/
structure PB (W : World) (b : Nat) (A : Option Addr) (N c : Nat) (toks : List Tk) (a o : Nat) : Prop where
  blk : W.heap[b]? = some (.cells #[.slice A N c, .int .i64 a, .int .i64 o] 57 (0, 0))
  tok : SL tcf 4 W A N toks
  wf : WfT toks
  old : ∀ x, A = some x → x.block ≠ b
  at_ : a < N
  ml : ∃ m : Int, W.cell? ⟨0, 0, none⟩ = some (.int .i64 m)
  b0 : 0 < b
  nb : N ≤ 100000
  sz : ∀ t ∈ toks, t.tx.length ≤ 100000
/-- Nothing but the block b has turned. -/
structure Mv (b : Nat) (W W' : World) : Prop where
  size : W.heap.size ≤ W'.heap.size
  keep : ∀ k, k ≠ b → k < W.heap.size → W'.heap[k]? = W.heap[k]?
  ext : ∀ w0, w0.heap.size ≤ b → Ext w0 W → Ext w0 W'
theorem Mv.refl (b : Nat) (W : World) : Mv b W W := ⟨Nat.le_refl _, fun _ _ _ => rfl, fun _ _ h => h⟩
theorem Mv.trans {b : Nat} {W W' W'' : World} (h : Mv b W W') (k : Mv b W' W'') : Mv b W W'' :=
  ⟨Nat.le_trans h.size k.size, fun j hj hl => (k.keep j hj (Nat.lt_of_lt_of_le hl h.size)).trans (h.keep j hj hl), fun w0 h0 hx => k.ext w0 h0 (h.ext w0 h0 hx)⟩
theorem Mv.of_ext {b : Nat} {W W' : World} (h : Ext W W') : Mv b W W' := ⟨h.lt, fun k _ hk => h.block k hk, fun _ _ hx => hx.trans h⟩
theorem Mv.set {W : World} {b i : Nat} (u : Value) : Mv b W (W.setCell ⟨b, i, none⟩ u) :=
  ⟨by simp, fun k hk _ => heap_setCell_other W ⟨b, i, none⟩ k u hk, fun w0 h0 hx => hx.setCell (p := ⟨b, i, none⟩) h0 u⟩
theorem Rep.mv {W W' : World} {P : Nat → Prop} {b : Nat} {d : Nd} {t : Tr} (h : Rep W P d t) (hm : Mv b W W') (hb : ∀ k, P k → k ≠ b) : Rep W' P d t := h.keep hm.size fun k h1 h2 => hm.keep k (hb k h1) h2
theorem PB.lt {W : World} {b : Nat} {A : Option Addr} {N c : Nat} {toks : List Tk} {a o : Nat} (h : PB W b A N c toks a o) : b < W.heap.size := lt_of_block h.blk
theorem PB.len {W : World} {b : Nat} {A : Option Addr} {N c : Nat} {toks : List Tk} {a o : Nat} (h : PB W b A N c toks a o) : N = toks.length := h.tok.1
theorem PB.ext {W W' : World} {b : Nat} {A : Option Addr} {N c : Nat} {toks : List Tk} {a o : Nat} (h : PB W b A N c toks a o) (hx : Ext W W') : PB W' b A N c toks a o :=
  ⟨by rw [hx.block b h.lt]; exact h.blk, h.tok.ext hx, h.wf, h.old, h.at_, by
    obtain ⟨m, hm⟩ := h.ml
    exact ⟨m, by rw [hx.cells.1 0 0 (by have := h.lt; omega)]; exact hm⟩, h.b0, h.nb, h.sz⟩
theorem PB.c0 {W : World} {b : Nat} {A : Option Addr} {N c : Nat} {toks : List Tk} {a o : Nat} (h : PB W b A N c toks a o) : W.cell? ⟨b, 0, none⟩ = some (.slice A N c) := by rw [cell_of_row W _ _ _ 57 (0, 0) h.blk]; rfl
theorem PB.c1 {W : World} {b : Nat} {A : Option Addr} {N c : Nat} {toks : List Tk} {a o : Nat} (h : PB W b A N c toks a o) : W.cell? ⟨b, 1, none⟩ = some (.int .i64 a) := by rw [cell_of_row W _ _ _ 57 (0, 0) h.blk]; rfl
theorem PB.c2 {W : World} {b : Nat} {A : Option Addr} {N c : Nat} {toks : List Tk} {a o : Nat} (h : PB W b A N c toks a o) : W.cell? ⟨b, 2, none⟩ = some (.int .i64 o) := by rw [cell_of_row W _ _ _ 57 (0, 0) h.blk]; rfl
theorem PB.fz {W : World} {b : Nat} {A : Option Addr} {N c : Nat} {toks : List Tk} {a o : Nat} (h : PB W b A N c toks a o) (i : Nat) : W.frozen? ⟨b, i, none⟩ = false := frozen_of_row W _ i _ 57 h.blk
theorem PB.set1 {W : World} {b : Nat} {A : Option Addr} {N c : Nat} {toks : List Tk} {a o : Nat} (h : PB W b A N c toks a o) (a' : Nat) (ha : a' < N) : PB (W.setCell ⟨b, 1, none⟩ (.int .i64 a')) b A N c toks a' o :=
  ⟨(heap_setCell_same W b 1 _ 57 _ h.blk).trans rfl, h.tok.blocks fun x hx _ => heap_setCell_other W _ _ _ (h.old x hx), h.wf, h.old, ha, by
    obtain ⟨m, hm⟩ := h.ml
    exact ⟨m, by rw [World.cell?_of_block (a := ⟨0, 0, none⟩) (heap_setCell_other W _ _ _ (by have := h.b0; simp only; omega))]; exact hm⟩, h.b0, h.nb, h.sz⟩
theorem PB.set2 {W : World} {b : Nat} {A : Option Addr} {N c : Nat} {toks : List Tk} {a o : Nat} (h : PB W b A N c toks a o) (o' : Nat) : PB (W.setCell ⟨b, 2, none⟩ (.int .i64 o')) b A N c toks a o' :=
  ⟨(heap_setCell_same W b 2 _ 57 _ h.blk).trans rfl, h.tok.blocks fun x hx _ => heap_setCell_other W _ _ _ (h.old x hx), h.wf, h.old, h.at_, by
    obtain ⟨m, hm⟩ := h.ml
    exact ⟨m, by rw [World.cell?_of_block (a := ⟨0, 0, none⟩) (heap_setCell_other W _ _ _ (by have := h.b0; simp only; omega))]; exact hm⟩, h.b0, h.nb, h.sz⟩
/-- The token at the cursor. -/
theorem PB.tk {W : World} {b : Nat} {A : Option Addr} {N c : Nat} {toks : List Tk} {a o : Nat} (h : PB W b A N c toks a o) : ∃ g off t, A = some ⟨g, off, none⟩ ∧ toks[a]? = some t ∧ t ∈ toks ∧ hd (toks.drop a) = t ∧ (toks.drop a).tail = toks.drop (a + 1) ∧
    W.cell? ⟨g, off + a * 4, none⟩ = some (.int .i64 t.kd) ∧ W.cell? ⟨g, off + (a * 4 + 1), none⟩ = some (.int .i64 t.at_) ∧ W.cell? ⟨g, off + (a * 4 + 2), none⟩ = some (.string ⟨t.tx.toArray⟩) ∧ W.cell? ⟨g, off + (a * 4 + 3), none⟩ = some (.int .i64 t.nm) := by
  obtain ⟨g, off, e, hg, hc⟩ := h.tok.2 (by have := h.at_; omega)
  have hl := h.len
  have hat := h.at_
  obtain ⟨t, ht⟩ : ∃ t, toks[a]? = some t := ⟨_, List.getElem?_eq_getElem (by omega)⟩
  have hcc := hc a t ht
  refine ⟨g, off, t, e, ht, List.mem_of_getElem? ht, ?_, by rw [List.tail_drop], ?_, hcc 1 _ rfl, hcc 2 _ rfl, hcc 3 _ rfl⟩
  · unfold hd
    rw [List.headD_eq_head?_getD, List.head?_drop, ht]; rfl
  · have := hcc 0 _ rfl
    rwa [Nat.add_zero] at this
/-- A token with a text is not the last one. -/
theorem PB.more {W : World} {b : Nat} {A : Option Addr} {N c : Nat} {toks : List Tk} {a o : Nat} (h : PB W b A N c toks a o) {t : Tk} (ht : toks[a]? = some t) (hk : t.kd ≠ 0) : a + 1 < N := by
  obtain ⟨ts, k, e, _⟩ := h.wf
  have hl := h.len
  have ha := (List.getElem?_eq_some_iff.1 ht).1
  by_cases h1 : a + 1 < N
  · exact h1
  · exfalso
    have h2 : a = ts.length := by rw [hl, e] at h1; rw [e] at ha; simp at h1 ha; omega
    rw [e, h2] at ht
    simp at ht
    rw [← ht] at hk
    exact hk rfl
theorem PB.lts {W : World} {b : Nat} {A : Option Addr} {N c : Nat} {toks : List Tk} {a o : Nat} (h : PB W b A N c toks a o) : ∀ x, A = some x → x.block < W.heap.size := fun x hx => by
  obtain ⟨g, off, e, hg, _⟩ := h.tok.2 (by have := h.at_; omega)
  rw [e] at hx
  injection hx with hx
  rw [← hx]; exact hg
theorem PB.keep {W W' : World} {b : Nat} {A : Option Addr} {N c : Nat} {toks : List Tk} {a o : Nat} (h : PB W b A N c toks a o) (n : Nat) (hb : b < n) (hA : ∀ x, A = some x → x.block < n) (hk : ∀ k, k < n → W'.heap[k]? = W.heap[k]?) : PB W' b A N c toks a o :=
  ⟨(hk b hb).trans h.blk, h.tok.blocks fun x hx _ => hk _ (hA x hx), h.wf, h.old, h.at_, by
    obtain ⟨m, hm⟩ := h.ml
    exact ⟨m, by rw [World.cell?_of_block (a := ⟨0, 0, none⟩) (hk 0 (by omega))]; exact hm⟩, h.b0, h.nb, h.sz⟩
/-- A store into a block that the method has made. -/
theorem PB.setNew {W W' : World} {b : Nat} {A : Option Addr} {N c : Nat} {toks : List Tk} {a o a0 o0 : Nat} (h0 : PB W b A N c toks a0 o0) (h : PB W' b A N c toks a o) {p : Addr} (hp : W.heap.size ≤ p.block) (u : Value) : PB (W'.setCell p u) b A N c toks a o :=
  h.keep W.heap.size h0.lt h0.lts fun k hk => heap_setCell_other W' p k u (by omega)
theorem Mv.setNew {b : Nat} {W W' : World} (h : Mv b W W') {p : Addr} (hp : W.heap.size ≤ p.block) (u : Value) : Mv b W (W'.setCell p u) :=
  ⟨by simpa using h.size, fun k h1 h2 => (heap_setCell_other W' p k u (by omega)).trans (h.keep k h1 h2), fun w0 h1 h2 => (h.ext w0 h1 h2).setCell (p := p) (Nat.le_trans h2.lt hp) u⟩
def failV (r : List Tk) (e : Int) : Value := .iface 96 (.agg #[.int .i64 (hd r).at_, .int .i64 e])
/-- How a method of the parser ends that reads α: R says what it hands back. -/
def GP {α : Type} (b : Nat) (A : Option Addr) (N c : Nat) (toks : List Tk) (a o : Nat) (R : World → α → Value → Prop) (W : World) (res : PR α) (e : Ending) (W' : World) : Prop :=
  match res with
  | .ok x r => ∃ v a', e = .returned v ∧ R W' x v ∧ a ≤ a' ∧ r = toks.drop a' ∧ PB W' b A N c toks a' o ∧ Mv b W W'
  | .bad r er => ∃ a' o', e = .panicked [{ v := failV r er, recovered := false }] ∧ a ≤ a' ∧ r = toks.drop a' ∧ PB W' b A N c toks a' o' ∧ Mv b W W'
end Go.Proofs.YtnpenepdechkjaaGreatDoor

/- The production's small readers: next, fail, take, must. -/
namespace Go.Proofs.YtnpenepdechkjaaGreatDoor
open Go Go.RowKit

abbrev bs (l : List UInt8) : ByteArray := ⟨l.toArray⟩
theorem pnext_any {W : World} {b : Nat} {A : Option Addr} {N c : Nat} {toks : List Tk} {a o : Nat} (h : PB W b A N c toks a o) (S : ByteArray) (hS : S = bs (hd (toks.drop a)).tx) :
    Calls Tryz.prog 77 #[.pointer (some ⟨b, 0, none⟩)] W (fun e W' => e = .returned (.string S) ∧ Ext W W') := by
  obtain ⟨g, off, t, rfl, _, _, h4, _, k0, k1, k2, k3⟩ := h.tk
  rw [h4] at hS
  have c0 := h.c0
  have c1 := h.c1
  have haI : (a : Int) < (N : Int) := by have := h.at_; omega
  have HS := Lib.hid hS
  have k2' : W.cell? ⟨g, off + a * 4 + 2, none⟩ = some (.string S) := by rw [hS, Nat.add_assoc]; exact k2
  clear hS h4 k0 k1 k2 k3 h
  go_enter Tryz.func77, Tryz.ntmps77
  go_upto_region 1 with (fail)
  go_quiet (fail)
  go_wp2
  go_ret
  exact ⟨rfl, (Ext.refl _).drewN _⟩
set_option maxRecDepth 100000 in
theorem pfail_any {W : World} {b : Nat} {A : Option Addr} {N c : Nat} {toks : List Tk} {a o : Nat} (h : PB W b A N c toks a o) (er : Int) :
    Calls Tryz.prog 73 #[.pointer (some ⟨b, 0, none⟩), .int .i64 er] W (fun e W' => e = .panicked [{ v := failV (toks.drop a) er, recovered := false }] ∧ Ext W W') := by
  obtain ⟨g, off, t, rfl, _, _, h4, _, k0, k1, k2, k3⟩ := h.tk
  unfold failV
  rw [h4]
  have c0 := h.c0
  have c1 := h.c1
  have haI : (a : Int) < (N : Int) := by have := h.at_; omega
  rw [← Nat.add_assoc] at k1
  clear h4 k0 k2 k3 h
  go_enter Tryz.func73, Tryz.ntmps73
  go_upto_region 0 with (fail)
  go_still_tail 14, (by kernel_rfl)
  go_wp2
  exact ⟨rfl, rfl, (Ext.refl _).drew⟩
/-- What a test of two texts yields. -/
theorem bs_list (x : List UInt8) : (bs x).toList = x := by rw [ByteArray.toList_eq]
theorem bs_eq {x y : List UInt8} {X Y : ByteArray} (hX : X = bs x) (hY : Y = bs y) (h : x = y) : (X.toList == Y.toList) = true := by rw [hX, hY, h]; simp
theorem bs_ne {x y : List UInt8} {X Y : ByteArray} (hX : X = bs x) (hY : Y = bs y) (h : x ≠ y) : (X.toList == Y.toList) = false := by
  rw [hX, hY, bs_list, bs_list]; simpa using h
theorem hd_mem {W : World} {b : Nat} {A : Option Addr} {N c : Nat} {toks : List Tk} {a o : Nat} (h : PB W b A N c toks a o) : hd (toks.drop a) ∈ toks ∧ toks[a]? = some (hd (toks.drop a)) ∧ (toks.drop a).tail = toks.drop (a + 1) := by
  obtain ⟨g, off, t, _, h2, h3, h4, h5, _⟩ := h.tk
  rw [h4]; exact ⟨h3, h2, h5⟩
/-- What is read goes on behind a token. -/
theorem PB.go {W : World} {b : Nat} {A : Option Addr} {N c : Nat} {toks : List Tk} {a o : Nat} (h : PB W b A N c toks a o) (hk : (hd (toks.drop a)).kd ≠ 0) : a + 1 < N := h.more (hd_mem h).2.1 hk
theorem PB.txne {W : World} {b : Nat} {A : Option Addr} {N c : Nat} {toks : List Tk} {a o : Nat} (h : PB W b A N c toks a o) {s : List UInt8} (hx : (hd (toks.drop a)).tx = s) (hs : s ≠ []) : (hd (toks.drop a)).kd ≠ 0 := h.wf.kd0 (hd_mem h).1 (by rw [hx]; exact hs)
theorem ptake_yes {W : World} {b : Nat} {A : Option Addr} {N c : Nat} {toks : List Tk} {a o : Nat} (h : PB W b A N c toks a o) (s : List UInt8) (S : ByteArray) (hS : S = bs s) (hs : s ≠ []) (hx : (hd (toks.drop a)).tx = s) :
    Calls Tryz.prog 117 #[.pointer (some ⟨b, 0, none⟩), .string S] W (fun e W' => e = .returned (.bool true) ∧ PB W' b A N c toks (a + 1) o ∧ Mv b W W') := by
  obtain ⟨T, hT⟩ : ∃ T, T = bs (hd (toks.drop a)).tx := ⟨_, rfl⟩
  have HN := Lib.hid (pnext_any h T hT)
  have hne := bs_eq hT hS hx
  have hgo := h.go (h.txne hx hs)
  have HP := Lib.hid h
  have haI : (a : Int) ≤ 100000 := by have := h.nb; omega
  clear hS hT hx hs h
  go_enter Tryz.func117, Tryz.ntmps117
  go_upto_region 3 with (first | (go_at_call 77; refine (HN.out).mono ?_; rintro e w1 ⟨rfl, hx⟩))
  have c1 := (HP.out.ext hx).c1
  have f1 := (HP.out.ext hx).fz 1
  have HX := Lib.hid hx
  clear hx
  go_wp2
  go_ret
  exact ⟨rfl, by simpa using (HP.out.ext HX.out).set1 (a + 1) hgo, (Mv.of_ext HX.out).trans (Mv.set _)⟩
theorem ptake_no {W : World} {b : Nat} {A : Option Addr} {N c : Nat} {toks : List Tk} {a o : Nat} (h : PB W b A N c toks a o) (s : List UInt8) (S : ByteArray) (hS : S = bs s) (hx : (hd (toks.drop a)).tx ≠ s) :
    Calls Tryz.prog 117 #[.pointer (some ⟨b, 0, none⟩), .string S] W (fun e W' => e = .returned (.bool false) ∧ Ext W W') := by
  obtain ⟨T, hT⟩ : ∃ T, T = bs (hd (toks.drop a)).tx := ⟨_, rfl⟩
  have HN := Lib.hid (pnext_any h T hT)
  have hne := bs_ne hT hS hx
  clear hS hT hx h
  go_enter Tryz.func117, Tryz.ntmps117
  go_wp2_with (first | (go_at_call 77; refine (HN.out).mono ?_; rintro e w1 ⟨rfl, hx⟩))
  go_ret
  exact ⟨rfl, hx⟩
theorem pmust_yes {W : World} {b : Nat} {A : Option Addr} {N c : Nat} {toks : List Tk} {a o : Nat} (h : PB W b A N c toks a o) (s : List UInt8) (S : ByteArray) (hS : S = bs s) (hs : s ≠ []) (hx : (hd (toks.drop a)).tx = s) :
    Calls Tryz.prog 74 #[.pointer (some ⟨b, 0, none⟩), .string S] W (fun e W' => e = .returned (.tuple #[]) ∧ PB W' b A N c toks (a + 1) o ∧ Mv b W W') := by
  have HT := Lib.hid (ptake_yes h s S hS hs hx)
  clear hS hx hs h
  go_enter Tryz.func74, Tryz.ntmps74
  go_wp2_with (first | (go_at_call 117; refine (HT.out).mono ?_; rintro e w1 ⟨rfl, hp, hm⟩))
  go_end0
  exact ⟨rfl, hp, hm⟩
theorem pmust_no {W : World} {b : Nat} {A : Option Addr} {N c : Nat} {toks : List Tk} {a o : Nat} (h : PB W b A N c toks a o) (s : List UInt8) (S : ByteArray) (hS : S = bs s) (hx : (hd (toks.drop a)).tx ≠ s) :
    Calls Tryz.prog 74 #[.pointer (some ⟨b, 0, none⟩), .string S] W (fun e W' => e = .panicked [{ v := failV (toks.drop a) 20, recovered := false }] ∧ Ext W W') := by
  have HT := Lib.hid (ptake_no h s S hS hx)
  have HF := Lib.hid (fun X (hX : Ext W X) => pfail_any (h.ext hX) 20)
  clear hS hx h
  go_enter Tryz.func74, Tryz.ntmps74
  go_wp2_with (first | (go_at_call 117; refine (HT.out).mono ?_; rintro e w1 ⟨rfl, hx⟩) | (go_at_call 73; refine (HF.out _ hx).mono ?_; rintro e w2 ⟨rfl, hx2⟩))
  exact ⟨rfl, rfl, hx.trans hx2⟩
end Go.Proofs.YtnpenepdechkjaaGreatDoor
