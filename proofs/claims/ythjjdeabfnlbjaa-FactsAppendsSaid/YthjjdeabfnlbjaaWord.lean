/- The contract of facts.word. -/
import Derived.Test.YthjjdeabfnlbjaaScalar
namespace Go.Proofs.Ythjjdeabfnlbjaa
open Go Go.RowKit

theorem wordB_eq (s : ByteArray) (h0 : 0 < s.size) (hl : letB s[0] = true) (ha : s.data.toList.all wchB = true) : wordB s = decide (s.size ≤ 12) := by
  unfold wordB; rw [head_eq s h0, hl, ha, decide_eq_true h0]; simp
theorem wordB_head (s : ByteArray) (h0 : 0 < s.size) (hl : letB s[0] = false) : wordB s = false := by
  unfold wordB; rw [head_eq s h0, hl]; simp
theorem wordB_all (s : ByteArray) (ha : s.data.toList.all wchB = false) : wordB s = false := by
  unfold wordB; rw [ha]; simp

theorem pw_bad (s : ByteArray) (k : Nat) (hk : k < s.size) (hl : letB s[k] = false) (h : digB s[k] = false ∨ k = 0) : wordB s = false := by
  rcases h with h | h
  · exact wordB_all s (all_false s k hk (by simp [wchB, hl, h]))
  · subst h; exact wordB_head s hk hl
def Pw (s : ByteArray) (k : Nat) : Prop := (s.data.toList.take k).all wchB = true ∧ ∀ h : 0 < s.size, 0 < k → letB s[0] = true
theorem pw_step (s : ByteArray) (k : Nat) (hk : k < s.size) (h : Pw s k) (hc : letB s[k] = true ∨ (digB s[k] = true ∧ k ≠ 0)) : Pw s (k + 1) := by
  refine ⟨all_snoc s k hk (by rcases hc with hc | hc <;> simp [wchB, hc]) h.1, fun h0 _ => ?_⟩
  by_cases hz : k = 0
  · subst hz; simpa using hc
  · exact h.2 h0 (by omega)
theorem pw_end (s : ByteArray) (k : Nat) (hk : s.size ≤ k) (h : Pw s k) (h0 : 0 < s.size) : wordB s = decide (s.size ≤ 12) :=
  wordB_eq s h0 (h.2 h0 (by omega)) (all_end s k hk h.1)

set_option maxRecDepth 100000 in
set_option maxHeartbeats 1000000 in
theorem pword_any (s : ByteArray) (w : World) (hs : s.size ≤ maxLen) :
    Calls Try.prog 58 #[.string s] w fun e w' => e = .returned (.bool (wordB s)) ∧ ∃ n, w' = w.drewN n := by
  unfold maxLen at hs
  go_enter Try.func58, Try.ntmps58
  go_wp2
  go_loopw [8] (fun i wr => ∃ k n : Nat, k ≤ s.size ∧ i = .int .i64 k ∧ wr = w.drewN n ∧ Pw s k) (fun i _ => s.size - (intOf i).toNat)
  case atStart => exact ⟨0, 0, Nat.zero_le _, rfl, rfl, rfl, fun _ h => absurd h (by omega)⟩
  case round =>
    obtain ⟨k, n, hk, rfl, rfl, ha⟩ := hrel
    have HA := Lib.hid ha; clear ha
    by_cases hlt : k < s.size
    · have hi1 : (k : Int) < s.size := by omega
      have hcase : ∃ b1 b2 b3 b4 b5 : Bool, decide (97 ≤ (s[k].toNat : Int)) = b1 ∧ decide ((s[k].toNat : Int) ≤ 122) = b2 ∧ decide (48 ≤ (s[k].toNat : Int)) = b3 ∧ decide ((s[k].toNat : Int) ≤ 57) = b4 ∧ ((k : Int) == 0) = b5 := ⟨_, _, _, _, _, rfl, rfl, rfl, rfl, rfl⟩
      obtain ⟨b1, b2, b3, b4, b5, d1, d2, d3, d4, d5⟩ := hcase
      have hL : letB s[k] = (b1 && b2) := by rw [← d1, ← d2]; rfl
      have hD : digB s[k] = (b3 && b4) := by rw [← d3, ← d4]; rfl
      have hZ : decide (k = 0) = b5 := by rw [← d5, Bool.eq_iff_iff]; simp
      have HL := Lib.hid hL; clear hL
      have HD := Lib.hid hD; clear hD
      have HZ := Lib.hid hZ; clear hZ
      cases b1 <;> cases b2 <;> cases b3 <;> cases b4 <;> cases b5
      all_goals
        go_wp2
        go_quiet (fail)
        go_wp2
        first
          | (go_ret
             exact ⟨ret_bool (pw_bad s k hlt HL.out (by first | exact .inl HD.out | exact .inr (of_decide_eq_true HZ.out))).symm, _, rfl⟩)
          | (have hst := pw_step s k hlt HA.out (by first | exact .inl HL.out | exact .inr ⟨HD.out, of_decide_eq_false HZ.out⟩)
             have hm : s.size - (k + 1) < s.size - k := by omega
             first
               | exact ⟨⟨k + 1, _, hlt, by go_num, rfl, hst⟩, by simpa [intOf] using hm⟩
               | (refine ⟨?_, by simpa [intOf] using hm⟩
                  repeat apply Exists.intro
                  exact ⟨⟨k + 1, _, hlt, by go_num, rfl, hst⟩, rfl⟩))
    · by_cases h0 : s.size = 0
      · have he := empty_of_size s h0
        have hf : wordB s = false := by simp [wordB, h0]
        have HF := Lib.hid hf; clear hf h0
        go_wp2
        go_ret
        exact ⟨ret_bool (by rw [HF.out]), n, rfl⟩
      · obtain ⟨hn1, hn2⟩ := toList_ne s (by omega)
        have hf := pw_end s k (by omega) HA.out (by omega)
        have HF := Lib.hid hf; clear hf
        have hn3 : (!s.toList.isEmpty) = true := by simp [hn1]
        go_wp2
        go_ret
        exact ⟨ret_bool (by rw [HF.out]; simp; omega), n, rfl⟩
end Go.Proofs.Ythjjdeabfnlbjaa
