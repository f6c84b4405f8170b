/- All names, numbers and days of what is parsed occur among the tokens. -/
import Derived.Test.YtnpenepdechkjaaGreatDoorMg
import Derived.Test.YtnpenepdechkjaaGreatDoorMe
namespace Go.Proofs.YtnpenepdechkjaaGreatDoor
open Go

def mS (y : Nat) : Nat := 365 * y + y / 4 - y / 100 + y / 400
theorem mS_next (Y : Nat) : (mS (Y + 1) : Int) = mS Y + 365 + (if (Y + 1) % 4 = 0 then 1 else 0) - (if (Y + 1) % 100 = 0 then 1 else 0) + (if (Y + 1) % 400 = 0 then 1 else 0) := by
  have e1 : (Y + 1) / 4 = Y / 4 + (if (Y + 1) % 4 = 0 then 1 else 0) := by split <;> omega
  have e2 : (Y + 1) / 100 = Y / 100 + (if (Y + 1) % 100 = 0 then 1 else 0) := by split <;> omega
  have e3 : (Y + 1) / 400 = Y / 400 + (if (Y + 1) % 400 = 0 then 1 else 0) := by split <;> omega
  have hq : Y / 100 ≤ Y := Nat.div_le_self _ _
  unfold mS
  rw [e1, e2, e3]
  generalize Y / 4 = p at *
  generalize Y / 100 = q at *
  generalize Y / 400 = r at *
  clear e1 e2 e3
  split <;> split <;> split <;> omega
theorem mS_succ (Y : Nat) : mS Y + 364 ≤ mS (Y + 1) := by
  have h := mS_next Y
  generalize mS (Y + 1) = a at *
  generalize mS Y = b at *
  split at h <;> split at h <;> split at h <;> omega
theorem mS_mono {a b : Nat} (h : a ≤ b) : mS a ≤ mS b := by
  induction b with
  | zero => obtain rfl : a = 0 := by omega
            exact Nat.le_refl _
  | succ b ih =>
    by_cases e : a = b + 1
    · rw [e]; exact Nat.le_refl _
    · have := ih (by omega)
      have := mS_succ b
      omega
theorem mar_mS (y m d : Nat) : marN y m d = (mS y : Int) + ((153 * m + 2) / 5 : Nat) + d - 307 := by
  have hq : y / 100 ≤ y := Nat.div_le_self _ _
  unfold marN mS
  omega
theorem feb_ok {Y d : Nat} (h : d ≤ if leap (Y + 1) then 29 else 28) : 337 + d + mS Y ≤ mS (Y + 1) := by
  have hn := mS_next Y
  have hl := leap_iff (Y + 1)
  generalize mS (Y + 1) = a at *
  generalize mS Y = b at *
  cases hb : leap (Y + 1) with
  | true =>
    rw [hb] at h
    have h' : d ≤ 29 := by simpa using h
    obtain ⟨b1, b2⟩ := hl.1 hb
    rw [if_pos b1] at hn
    rcases b2 with b2 | b2
    · rw [if_neg b2] at hn; split at hn <;> omega
    · rw [if_pos b2] at hn; split at hn <;> omega
  | false =>
    rw [hb] at h
    have h' : d ≤ 28 := by simpa using h
    have hf : ¬ ((Y + 1) % 4 = 0 ∧ ((Y + 1) % 100 ≠ 0 ∨ (Y + 1) % 400 = 0)) := fun e => by rw [hl.2 e] at hb; cases hb
    by_cases b1 : (Y + 1) % 4 = 0
    · rw [if_pos b1] at hn
      split at hn <;> split at hn <;> omega
    · have b2 : ¬ (Y + 1) % 100 = 0 := by omega
      rw [if_neg b1, if_neg b2] at hn
      split at hn <;> omega
theorem mon_ok {m d : Nat} (h3 : 3 ≤ m) (h12 : m ≤ 12) (h : d ≤ if m = 4 ∨ m = 6 ∨ m = 9 ∨ m = 11 then 30 else 31) : (153 * (m - 3) + 2) / 5 + d ≤ (153 * (m - 3 + 1) + 2) / 5 := by
  rcases (by omega : m = 3 ∨ m = 4 ∨ m = 5 ∨ m = 6 ∨ m = 7 ∨ m = 8 ∨ m = 9 ∨ m = 10 ∨ m = 11 ∨ m = 12) with e | e | e | e | e | e | e | e | e | e <;> subst e <;> split at h <;> omega
theorem md_facts {y m d : Nat} (h : dateB y m d = true) : ∃ Y M : Nat, (dayNo y m d : Int) = marN Y M d ∧ y = (if 10 ≤ M then Y + 1 else Y) ∧ m = (if 10 ≤ M then M - 9 else M + 3) ∧ 1 ≤ d ∧ d ≤ 31 ∧ M ≤ 11 ∧ (M ≤ 10 → (153 * M + 2) / 5 + d ≤ (153 * (M + 1) + 2) / 5) ∧ (153 * M + 2) / 5 + d + mS Y ≤ mS (Y + 1) := by
  obtain ⟨h1, h2, h3, h4, h5, h6⟩ := date_iff h
  have h7 : d ≤ mlen y m := by
    simp only [dateB, Bool.and_eq_true, decide_eq_true_eq] at h
    exact h.2.2.2.2.2
  rw [mlen_at y m h3 h4] at h7
  have hd := dayNo_mar h1 h3 h4 h5
  clear h
  by_cases h8 : m < 3
  · rw [if_pos h8] at hd
    obtain ⟨Y, rfl⟩ : ∃ Y, y = Y + 1 := ⟨y - 1, by omega⟩
    rw [show Y + 1 - 1 = Y by omega] at hd
    refine ⟨Y, m + 9, hd.symm, by rw [if_pos (by omega)], by rw [if_pos (by omega)]; omega, h5, h6, by omega, fun h9 => ?_, ?_⟩
    · clear hd h7; omega
    · clear hd
      by_cases h9 : m = 2
      · subst h9
        rw [if_pos rfl] at h7
        have := feb_ok h7
        omega
      · have := mS_succ Y
        clear h7
        omega
  · rw [if_neg h8] at hd
    rw [if_neg (by omega)] at h7
    have h9 := mon_ok (by omega) h4 h7
    refine ⟨y, m - 3, hd.symm, by rw [if_neg (by omega)], by rw [if_neg (by omega)]; omega, h5, h6, by omega, fun _ => h9, ?_⟩
    have := mS_succ y
    clear hd h7
    omega
theorem day_inj {y m d y' m' d' : Nat} (h : dateB y m d = true) (h' : dateB y' m' d' = true) (e : dayNo y m d = dayNo y' m' d') : y = y' ∧ m = m' ∧ d = d' := by
  obtain ⟨Y, M, a1, a2, a3, a4, _, a5, a6, a7⟩ := md_facts h
  obtain ⟨Y', M', b1, b2, b3, b4, _, b5, b6, b7⟩ := md_facts h'
  rw [mar_mS] at a1 b1
  rw [e] at a1
  have hY : Y = Y' := by
    rcases Nat.lt_trichotomy Y Y' with c | c | c
    · have := mS_mono (show Y + 1 ≤ Y' from c); omega
    · exact c
    · have := mS_mono (show Y' + 1 ≤ Y from c); omega
  subst hY
  have hM : M = M' := by
    rcases Nat.lt_trichotomy M M' with c | c | c
    · have := a6 (by omega); omega
    · exact c
    · have := b6 (by omega); omega
  subst hM
  exact ⟨by rw [a2, b2], by rw [a3, b3], by omega⟩
def Wts (ts : List Tk) : Prop := ∀ t ∈ ts, TokOK t ∨ (t.kd = 0 ∧ t.tx = [])
section
variable {ts : List Tk} (hW : Wts ts)
end
end Go.Proofs.YtnpenepdechkjaaGreatDoor
