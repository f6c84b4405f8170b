/- The contracts of the small functions on numbers, bytes and strings. -/
import Derived.Test.YthjjdeabfnlbjaaMem
import Derived.Test.YthjjdeabfnlbjaaChecked
import Derived.Lib.Hide
import Derived.Deep.QuietTactic
import Derived.BigQuiet
import Derived.WalkLawsBesides
namespace Go.Proofs.Ythjjdeabfnlbjaa
open Go Go.RowKit


theorem ret_bool {a b : Bool} (h : a = b) : Ending.returned (.bool a) = .returned (.bool b) := by rw [h]
theorem ret_int {k : IntKind} {a b : Int} (h : a = b) : Ending.returned (.int k a) = .returned (.int k b) := by rw [h]

theorem in_any (n lo hi : Int) (w : World) :
    Calls Try.prog 47 #[.int .i64 n, .int .i64 lo, .int .i64 hi] w fun e w' => e = .returned (.bool (inB n lo hi)) ∧ w = w' := by
  by_cases h1 : lo ≤ n
  · by_cases h2 : n ≤ hi
    · go_enter Try.func47, Try.ntmps47
      go_wp2
      go_ret
      exact ⟨ret_bool (by simp [inB]; omega), rfl⟩
    · go_enter Try.func47, Try.ntmps47
      go_wp2
      go_ret
      exact ⟨ret_bool (by simp [inB]; omega), rfl⟩
  · go_enter Try.func47, Try.ntmps47
    go_wp2
    go_ret
    exact ⟨ret_bool (by simp [inB]; omega), rfl⟩
theorem fin_any (n hi : Int) (w : World)  :
    Calls Try.prog 49 #[.int .i64 n, .int .i64 hi] w fun e w' => e = .returned (.bool (inB n 0 (hi - 1))) ∧ w = w' := by
  by_cases h1 : 0 ≤ n
  · by_cases h2 : n < hi
    · go_enter Try.func49, Try.ntmps49
      go_wp2
      go_ret
      exact ⟨ret_bool (by simp [inB]; omega), rfl⟩
    · go_enter Try.func49, Try.ntmps49
      go_wp2
      go_ret
      exact ⟨ret_bool (by simp [inB]; omega), rfl⟩
  · go_enter Try.func49, Try.ntmps49
    go_wp2
    go_ret
    exact ⟨ret_bool (by simp [inB]; omega), rfl⟩
theorem letter_any (c : UInt8) (w : World) :
    Calls Try.prog 69 #[.int .u8 c.toNat] w fun e w' => e = .returned (.bool (letB c)) ∧ w = w' := by
  by_cases h1 : 97 ≤ (c.toNat : Int)
  · by_cases h2 : (c.toNat : Int) ≤ 122
    · go_enter Try.func69, Try.ntmps69
      go_wp2
      go_ret
      exact ⟨ret_bool (by simp [letB]; omega), rfl⟩
    · go_enter Try.func69, Try.ntmps69
      go_wp2
      go_ret
      exact ⟨ret_bool (by simp [letB]; omega), rfl⟩
  · go_enter Try.func69, Try.ntmps69
    go_wp2
    go_ret
    exact ⟨ret_bool (by simp [letB]; omega), rfl⟩
theorem digit_any (c : UInt8) (w : World) :
    Calls Try.prog 70 #[.int .u8 c.toNat] w fun e w' => e = .returned (.bool (digB c)) ∧ w = w' := by
  by_cases h1 : 48 ≤ (c.toNat : Int)
  · by_cases h2 : (c.toNat : Int) ≤ 57
    · go_enter Try.func70, Try.ntmps70
      go_wp2
      go_ret
      exact ⟨ret_bool (by simp [digB]; omega), rfl⟩
    · go_enter Try.func70, Try.ntmps70
      go_wp2
      go_ret
      exact ⟨ret_bool (by simp [digB]; omega), rfl⟩
  · go_enter Try.func70, Try.ntmps70
    go_wp2
    go_ret
    exact ⟨ret_bool (by simp [digB]; omega), rfl⟩


theorem take_snoc (s : ByteArray) (k : Nat) (h : k < s.size) : s.data.toList.take (k + 1) = s.data.toList.take k ++ [s[k]] := by
  rw [List.take_succ_eq_append_getElem (by simpa using h)]; rfl
theorem head_eq (s : ByteArray) (h : 0 < s.size) : s.data.toList.headD 0 = s[0] := by
  have e : s.data.toList = s.data.toList.take 1 ++ s.data.toList.drop 1 := (List.take_append_drop 1 _).symm
  rw [take_snoc s 0 h] at e
  rw [e]; rfl
theorem empty_of_size (s : ByteArray) (h : s.size = 0) : s.toList = [] := by
  rw [ByteArray.toList_eq]; exact List.eq_nil_of_length_eq_zero (by simpa using h)
theorem toList_ne (s : ByteArray) (h : 0 < s.size) : s.toList.isEmpty = false ∧ ¬ s.toList = [] := by
  have : ¬ s.toList = [] := fun e => by
    rw [ByteArray.toList_eq] at e
    have h1 := congrArg List.length e
    rw [List.length_nil, Array.length_toList] at h1
    have h2 : s.data.size = s.size := rfl
    omega
  exact ⟨by simpa using this, this⟩
theorem all_false (s : ByteArray) (k : Nat) (hk : k < s.size) (h : wchB s[k] = false) : s.data.toList.all wchB = false := by
  rw [← List.take_append_drop (k + 1) s.data.toList, take_snoc s k hk]
  simp [h]
theorem all_snoc (s : ByteArray) (k : Nat) (hk : k < s.size) (h : wchB s[k] = true) (ha : (s.data.toList.take k).all wchB = true) : (s.data.toList.take (k + 1)).all wchB = true := by
  rw [take_snoc s k hk, List.all_append, ha]
  simp [h]
theorem all_end (s : ByteArray) (k : Nat) (hk : s.size ≤ k) (ha : (s.data.toList.take k).all wchB = true) : s.data.toList.all wchB = true := by
  rwa [List.take_of_length_le (by simpa using hk)] at ha

set_option maxRecDepth 100000 in
set_option maxHeartbeats 400000 in
theorem rword_any (s : ByteArray) (w : World) (hs : s.size ≤ maxLen) :
    Calls Try.prog 56 #[.string s] w fun e w' => e = .returned (.bool (wordB s)) ∧ w = w' := by
  unfold maxLen at hs
  by_cases h0 : s.size = 0
  · have he := empty_of_size s h0
    have hf : wordB s = false := by simp [wordB, h0]
    have HF := Lib.hid hf; clear hf h0
    go_enter Try.func56, Try.ntmps56
    go_wp2
    go_ret
    exact ⟨ret_bool (by rw [HF.out]), rfl⟩
  · have h0' : 0 < s.size := by omega
    obtain ⟨hn1, hn2⟩ := toList_ne s h0'
    by_cases h1 : 12 < s.size
    · have hf : wordB s = false := by unfold wordB; rw [show decide (s.size ≤ 12) = false from by simp; omega]; simp
      have HF := Lib.hid hf; clear hf
      go_enter Try.func56, Try.ntmps56
      go_wp2
      go_ret
      exact ⟨ret_bool (by rw [HF.out]), rfl⟩
    · cases h2 : letB s[0]
      · have hf : wordB s = false := by unfold wordB; rw [head_eq s h0', h2]; simp
        have HF := Lib.hid hf; clear hf
        go_enter Try.func56, Try.ntmps56
        go_wp2_with (first | (go_at_call 69; refine (letter_any _ _).mono ?_; rintro e w' ⟨rfl, rfl⟩))
        go_ret
        exact ⟨ret_bool (by rw [HF.out]), rfl⟩
      · have hf : wordB s = s.data.toList.all wchB := by unfold wordB; rw [head_eq s h0', h2, decide_eq_true h0', show decide (s.size ≤ 12) = true from by simp; omega]; rfl
        have HF := Lib.hid hf; clear hf
        go_enter Try.func56, Try.ntmps56
        go_wp2_with (first | (go_at_call 69; refine (letter_any _ _).mono ?_; rintro e w' ⟨rfl, rfl⟩))
        go_loop [3] (fun i => ∃ k : Nat, k ≤ s.size ∧ i = .int .i64 k ∧ (s.data.toList.take k).all wchB = true) (fun i => s.size - (intOf i).toNat)
        case atStart => exact ⟨0, Nat.zero_le _, rfl, rfl⟩
        case round =>
          obtain ⟨k, hk, rfl, ha⟩ := hrel
          have HA := Lib.hid ha; clear ha
          by_cases hlt : k < s.size
          · cases hL : letB s[k] <;> cases hD : digB s[k]
            · have hf := all_false s k hlt (by simp [wchB, hL, hD])
              have HG := Lib.hid hf; clear hf
              go_wp2_with (first | (go_at_call 69; refine (letter_any _ _).mono ?_; rintro e w' ⟨rfl, rfl⟩) | (go_at_call 70; refine (digit_any _ _).mono ?_; rintro e w' ⟨rfl, rfl⟩))
              go_ret
              exact ⟨ret_bool (by rw [HF.out, HG.out]), rfl⟩
            all_goals
              have hf := all_snoc s k hlt (by simp [wchB, hL, hD]) HA.out
              have HG := Lib.hid hf; clear hf
              go_wp2_with (first | (go_at_call 69; refine (letter_any _ _).mono ?_; rintro e w' ⟨rfl, rfl⟩) | (go_at_call 70; refine (digit_any _ _).mono ?_; rintro e w' ⟨rfl, rfl⟩))
              go_round
              case rel => exact ⟨k + 1, by omega, by go_num, HG.out⟩
              case measure => simp [intOf]; omega
          · have hf := all_end s k (by omega) HA.out
            have HG := Lib.hid hf; clear hf
            go_wp2
            go_ret
            exact ⟨ret_bool (by rw [HF.out, HG.out]), rfl⟩
end Go.Proofs.Ythjjdeabfnlbjaa
