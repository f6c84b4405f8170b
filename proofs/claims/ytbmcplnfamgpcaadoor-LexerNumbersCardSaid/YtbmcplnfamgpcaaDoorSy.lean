/- The contract of 'symbol'. -/
import Derived.Test.YtbmcplnfamgpcaaDoorWd
namespace Go.Proofs.YtbmcplnfamgpcaaDoor
open Go Go.RowKit

theorem index_mem : ∀ (l : List UInt8) (c : UInt8), (0 ≤ Lib.indexByte l c) ↔ c ∈ l
  | [], c => by simp [Lib.indexByte]
  | b :: l, c => by
    have ih := index_mem l c
    have hg := Lib.indexByte_ge l c
    rw [Lib.indexByte]
    by_cases h : b = c
    · simp [h]
    · have h' : (b == c) = false := by simpa using h
      have h2 : ¬ c = b := fun e => h e.symm
      simp only [h', List.mem_cons, h2, false_or]
      by_cases h3 : Lib.indexByte l c = -1
      · simp only [h3, ← ih]; decide
      · have : (Lib.indexByte l c == -1) = false := by simpa using h3
        simp only [this, ← ih]
        simp
        omega
theorem prefix2 (c a : UInt8) (r : List UInt8) : Lib.hasPrefix (c :: r) [a, 61] = true ↔ c = a ∧ r.head? = some 61 := by
  cases r with
  | nil => simp [Lib.hasPrefix]
  | cons d r => simp [Lib.hasPrefix]; constructor <;> (rintro ⟨h1, h2⟩; exact ⟨h1.symm, h2.symm⟩)
theorem prefix_two {s : ByteArray} {a : UInt8} (h : Lib.hasPrefix s.data.toList [a, 61] = true) : 2 ≤ s.size := by
  rw [← list_size]
  have : ([a, 61] : List UInt8).length ≤ s.data.toList.length := (List.isPrefixOf_iff_prefix.1 h).length_le
  exact this
theorem sym_two {l : List UInt8} {a : UInt8} (ha : a = 60 ∨ a = 33 ∨ a = 62) (h : Lib.hasPrefix l [a, 61] = true) : symT l = .ok 4 2 0 := by
  cases l with
  | nil => simp [Lib.hasPrefix] at h
  | cons c r =>
    obtain ⟨rfl, h2⟩ := (prefix2 c a r).1 h
    have e : symN (c :: r) = 2 := by rw [symN_cons, if_pos ⟨ha, h2⟩]
    rw [symT, e]
    rfl
theorem sym_no {c : UInt8} {r : List UInt8} (h1 : Lib.hasPrefix (c :: r) [60, 61] = false) (h2 : Lib.hasPrefix (c :: r) [33, 61] = false) (h3 : Lib.hasPrefix (c :: r) [62, 61] = false) :
    ¬ ((c = 60 ∨ c = 33 ∨ c = 62) ∧ r.head? = some 61) := by
  rintro ⟨h | h | h, h4⟩ <;> subst h
  · exact absurd ((prefix2 _ _ _).2 ⟨rfl, h4⟩) (by rw [h1]; decide)
  · exact absurd ((prefix2 _ _ _).2 ⟨rfl, h4⟩) (by rw [h2]; decide)
  · exact absurd ((prefix2 _ _ _).2 ⟨rfl, h4⟩) (by rw [h3]; decide)
theorem idx_any (s : ByteArray) (h0 : 0 < s.size) (v : Int) (hv : v = Lib.indexByte [123, 125, 40, 41, 59, 44, 43, 45, 42, 60, 61, 62] s[0]) (X : World) :
    Calls Tryd.prog 45 #[.string ⟨#[123, 125, 40, 41, 59, 44, 43, 45, 42, 60, 61, 62]⟩, .int .u8 (s[0].toNat : Int)] X fun e X' => e = .returned (.int .i64 v) ∧ X' = X := by
  refine (Tryd.strings_IndexByte _ _ _).mono ?_
  rintro e X' ⟨rfl, rfl⟩
  refine ⟨?_, rfl⟩
  rw [hv]
  simp
def symL : List UInt8 := [123, 125, 40, 41, 59, 44, 43, 45, 42, 60, 61, 62]
theorem sym_one {c : UInt8} {r : List UInt8} (h : ¬ ((c = 60 ∨ c = 33 ∨ c = 62) ∧ r.head? = some 61)) (hm : c ∈ symL) : symT (c :: r) = .ok 4 1 0 := by
  have e : symN (c :: r) = 1 := by rw [symN_cons, if_neg h, if_pos (by simpa [symL] using hm)]
  rw [symT, e]
  rfl
theorem sym_none {c : UInt8} {r : List UInt8} (h : ¬ ((c = 60 ∨ c = 33 ∨ c = 62) ∧ r.head? = some 61)) (hm : c ∉ symL) : symT (c :: r) = .err 20 := by
  have e : symN (c :: r) = 0 := by rw [symN_cons, if_neg h, if_neg (fun h => hm (by simpa [symL] using h))]
  rw [symT, e]
  rfl
set_option maxHeartbeats 4000000 in
set_option maxRecDepth 100000 in
theorem sym_any (s : ByteArray) (w : World) (hs : s.size ≤ 281474976710656) (h0 : 0 < s.size) : Calls Tryd.prog 26 #[.string s] w (TPost (symT s.data.toList) s w) := by
  have hl := get_list s 0 h0
  rw [List.drop_zero] at hl
  cases h1 : Lib.hasPrefix s.data.toList [60, 61] with
  | true =>
    have HT := Lib.hid (sym_two (.inl rfl) h1)
    have hsz : 2 ≤ s.size := prefix_two h1
    clear hl
    go_enter Tryd.func26, Tryd.ntmps26
    go_wp2_with (first | (go_at_call 44; refine (Tryd.strings_HasPrefix _ _ _).mono ?_; rintro e w1 ⟨rfl, rfl⟩))
    refine bodyPost_ret (v := .tuple #[.agg #[.int .i64 4, .int .i64 0, .string (s.extract 0 2), .int .i64 0], .int .i64 0]) (by simp [results, Tryd.results26, go_sem, *]) rfl ?_
    exact tpost_ok HT.out rfl rfl (extract_take _ _) ((Ext.refl w).alloc _)
  | false =>
    cases h2 : Lib.hasPrefix s.data.toList [33, 61] with
    | true =>
      have HT := Lib.hid (sym_two (.inr (.inl rfl)) h2)
      have hsz : 2 ≤ s.size := prefix_two h2
      clear hl
      go_enter Tryd.func26, Tryd.ntmps26
      go_wp2_with (first | (go_at_call 44; refine (Tryd.strings_HasPrefix _ _ _).mono ?_; rintro e w1 ⟨rfl, rfl⟩))
      refine bodyPost_ret (v := .tuple #[.agg #[.int .i64 4, .int .i64 0, .string (s.extract 0 2), .int .i64 0], .int .i64 0]) (by simp [results, Tryd.results26, go_sem, *]) rfl ?_
      exact tpost_ok HT.out rfl rfl (extract_take _ _) ((Ext.refl w).alloc _)
    | false =>
      cases h3 : Lib.hasPrefix s.data.toList [62, 61] with
      | true =>
        have HT := Lib.hid (sym_two (.inr (.inr rfl)) h3)
        have hsz : 2 ≤ s.size := prefix_two h3
        clear hl
        go_enter Tryd.func26, Tryd.ntmps26
        go_wp2_with (first | (go_at_call 44; refine (Tryd.strings_HasPrefix _ _ _).mono ?_; rintro e w1 ⟨rfl, rfl⟩))
        refine bodyPost_ret (v := .tuple #[.agg #[.int .i64 4, .int .i64 0, .string (s.extract 0 2), .int .i64 0], .int .i64 0]) (by simp [results, Tryd.results26, go_sem, *]) rfl ?_
        exact tpost_ok HT.out rfl rfl (extract_take _ _) ((Ext.refl w).alloc _)
      | false =>
        have hno := sym_no (by rw [← hl]; exact h1) (by rw [← hl]; exact h2) (by rw [← hl]; exact h3)
        by_cases hm : s[0] ∈ symL
        · have HT := Lib.hid (show symT s.data.toList = .ok 4 1 0 by rw [hl]; exact sym_one hno hm)
          obtain ⟨v, hv⟩ : ∃ v, v = Lib.indexByte [123, 125, 40, 41, 59, 44, 43, 45, 42, 60, 61, 62] s[0] := ⟨_, rfl⟩
          have hv0 : 0 ≤ v := by rw [hv]; exact (index_mem _ _).2 hm
          have HI := Lib.hid (idx_any s h0 v hv)
          clear hl hno hm hv
          go_enter Tryd.func26, Tryd.ntmps26
          go_wp2_with (first | (go_at_call 44; refine (Tryd.strings_HasPrefix _ _ _).mono ?_; rintro e w1 ⟨rfl, rfl⟩) | (go_at_call 45; refine (HI.out _).mono ?_; rintro e w1 ⟨rfl, rfl⟩))
          refine bodyPost_ret (v := .tuple #[.agg #[.int .i64 4, .int .i64 0, .string (s.extract 0 1), .int .i64 0], .int .i64 0]) (by simp [results, Tryd.results26, go_sem, *]) rfl ?_
          exact tpost_ok HT.out rfl rfl (extract_take _ _) ((Ext.refl w).alloc _)
        · have HT := Lib.hid (show symT s.data.toList = .err 20 by rw [hl]; exact sym_none hno hm)
          obtain ⟨v, hv⟩ : ∃ v, v = Lib.indexByte [123, 125, 40, 41, 59, 44, 43, 45, 42, 60, 61, 62] s[0] := ⟨_, rfl⟩
          have hv0 : ¬ 0 ≤ v := by rw [hv]; exact fun h => hm ((index_mem _ _).1 h)
          have HI := Lib.hid (idx_any s h0 v hv)
          clear hl hno hm hv
          go_enter Tryd.func26, Tryd.ntmps26
          go_wp2_with (first | (go_at_call 44; refine (Tryd.strings_HasPrefix _ _ _).mono ?_; rintro e w1 ⟨rfl, rfl⟩) | (go_at_call 45; refine (HI.out _).mono ?_; rintro e w1 ⟨rfl, rfl⟩))
          refine bodyPost_ret (v := .tuple #[.agg #[.int .i64 0, .int .i64 0, .string ⟨#[]⟩, .int .i64 0], .int .i64 20]) (by simp [results, Tryd.results26, go_sem, *]) rfl ?_
          exact tpost_err HT.out rfl ((Ext.refl w).alloc _)
end Go.Proofs.YtbmcplnfamgpcaaDoor
