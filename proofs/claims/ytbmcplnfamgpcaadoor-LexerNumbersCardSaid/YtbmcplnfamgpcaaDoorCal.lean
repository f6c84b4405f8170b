/- Plain law: the date of a day, and back. -/
import Derived.Test.YtbmcplnfamgpcaaDoorDy
namespace Go.Proofs.YtbmcplnfamgpcaaDoor
open Go

/-- The days of a cycle ahead of a year of it, which begins in March. -/
def eS (y : Nat) : Nat := 365 * y + y / 4 - y / 100
def eN (d : Nat) : Nat := d - d / 1460 + d / 36524 - d / 146096
def eHi (y : Nat) : Nat := if y = 399 then 146096 else eS (y + 1) - 1
theorem eN_mono {a b : Nat} (h : a ≤ b) (hb : b ≤ 146096) : eN a ≤ eN b := by
  unfold eN; omega
theorem ends : ((List.range 400).all fun y => decide (eN (eS y) / 365 = y) && decide (eN (eHi y) / 365 = y)) = true := by decide +kernel
theorem ends_at {y : Nat} (h : y < 400) : eN (eS y) / 365 = y ∧ eN (eHi y) / 365 = y := by
  have := List.all_eq_true.1 ends y (List.mem_range.2 h)
  simpa using this
theorem eS_hi {y : Nat} (h : y < 399) : eHi y + 1 = eS (y + 1) := by
  unfold eHi; rw [if_neg (by omega)]
  unfold eS; omega
theorem yoe_ok {d : Nat} (hd : d ≤ 146096) : eN d / 365 ≤ 399 ∧ eS (eN d / 365) ≤ d ∧ d ≤ eHi (eN d / 365) := by
  have h1 : eN d / 365 ≤ 399 := by
    have := eN_mono hd (Nat.le_refl _)
    have h2 : eN 146096 = 145999 := by decide
    omega
  refine ⟨h1, ?_, ?_⟩
  · rcases Nat.lt_or_ge d (eS (eN d / 365)) with h | h
    · exfalso
      by_cases h0 : eN d / 365 = 0
      · rw [h0] at h; simp [eS] at h
      · obtain ⟨y, hy⟩ : ∃ y, eN d / 365 = y + 1 := ⟨eN d / 365 - 1, by omega⟩
        have h2 := eS_hi (y := y) (by omega)
        rw [hy] at h
        have h3 := eN_mono (show d ≤ eHi y by omega) (by unfold eS at h2; omega)
        have h4 := (ends_at (y := y) (by omega)).2
        omega
    · exact h
  · rcases Nat.lt_or_ge (eHi (eN d / 365)) d with h | h
    · exfalso
      by_cases h0 : eN d / 365 = 399
      · rw [h0] at h; simp [eHi] at h; omega
      · have h2 := eS_hi (y := eN d / 365) (by omega)
        have h3 := eN_mono (show eS (eN d / 365 + 1) ≤ d by omega) hd
        have h4 := (ends_at (y := eN d / 365 + 1) (by omega)).1
        omega
    · exact h
/-- The year (of March), the month and the day of a day; as the code reckons. -/
def ofD (d : Nat) : Nat × Nat × Nat :=
  let z := d + 306
  let doe := z % 146097
  let yoe := eN doe / 365
  let doy := doe - eS yoe
  let m := (5 * doy + 2) / 153
  let y := yoe + 400 * (z / 146097)
  let dd := doy - (153 * m + 2) / 5 + 1
  if m ≥ 10 then (y + 1, m - 9, dd) else (y, m + 3, dd)
theorem mlen_at (y m : Nat) (h1 : 1 ≤ m) (h2 : m ≤ 12) : mlen y m = if m = 2 then (if leap y then 29 else 28) else if m = 4 ∨ m = 6 ∨ m = 9 ∨ m = 11 then 30 else 31 := by
  rw [mlen]
  by_cases h : m = 2
  · rw [if_pos h, if_pos h]
  · rw [if_neg h, if_neg h]
    by_cases h3 : m = 4 ∨ m = 6 ∨ m = 9 ∨ m = 11
    · rw [if_pos h3, if_pos h3]
    · rw [if_neg h3, if_neg h3, if_pos ⟨h1, h2⟩]
theorem leap_iff (y : Nat) : leap y = true ↔ (y % 4 = 0 ∧ (y % 100 ≠ 0 ∨ y % 400 = 0)) := by
  unfold leap; simp
theorem ofD_ok {d : Nat} (hd : d ≤ 3652058) : dateB (ofD d).1 (ofD d).2.1 (ofD d).2.2 = true ∧ dayNo (ofD d).1 (ofD d).2.1 (ofD d).2.2 = d := by
  obtain ⟨era, he⟩ : ∃ e, e = (d + 306) / 146097 := ⟨_, rfl⟩
  obtain ⟨doe, hdoe⟩ : ∃ e, e = (d + 306) % 146097 := ⟨_, rfl⟩
  have hz : d + 306 = 146097 * era + doe := by omega
  have hdl : doe ≤ 146096 := by omega
  obtain ⟨y1, y2, y3⟩ := yoe_ok hdl
  obtain ⟨yoe, hyoe⟩ : ∃ y, y = eN doe / 365 := ⟨_, rfl⟩
  rw [← hyoe] at y1 y2 y3
  obtain ⟨doy, hdoy⟩ : ∃ y, y = doe - eS yoe := ⟨_, rfl⟩
  have hdd : doe = eS yoe + doy := by omega
  have hlp : doy ≤ 364 ∨ (doy = 365 ∧ leap (yoe + 400 * era + 1) = true) := by
    by_cases h9 : yoe = 399
    · subst h9
      have e1 : eS 399 = 145731 := by decide
      have e2 : eHi 399 = 146096 := by decide
      by_cases h5 : doy = 365
      · exact .inr ⟨h5, (leap_iff _).2 (by omega)⟩
      · exact .inl (by omega)
    · have h2 := eS_hi (y := yoe) (by omega)
      by_cases h5 : doy ≤ 364
      · exact .inl h5
      · have a1 : (yoe + 1) / 4 = yoe / 4 + (if (yoe + 1) % 4 = 0 then 1 else 0) := by split <;> omega
        have a2 : (yoe + 1) / 100 = yoe / 100 + (if (yoe + 1) % 100 = 0 then 1 else 0) := by split <;> omega
        have h6 : doy = 365 ∧ (yoe + 1) % 4 = 0 ∧ ¬ (yoe + 1) % 100 = 0 := by
          unfold eS at h2 hdd
          rw [a1, a2] at h2
          by_cases b1 : (yoe + 1) % 4 = 0
          · by_cases b2 : (yoe + 1) % 100 = 0
            · rw [if_pos b1, if_pos b2] at h2; omega
            · rw [if_pos b1, if_neg b2] at h2; omega
          · by_cases b2 : (yoe + 1) % 100 = 0
            · omega
            · rw [if_neg b1, if_neg b2] at h2; omega
        exact .inr ⟨h6.1, (leap_iff _).2 (by omega)⟩
  have hof : ofD d = if (5 * doy + 2) / 153 ≥ 10 then (yoe + 400 * era + 1, (5 * doy + 2) / 153 - 9, doy - (153 * ((5 * doy + 2) / 153) + 2) / 5 + 1) else (yoe + 400 * era, (5 * doy + 2) / 153 + 3, doy - (153 * ((5 * doy + 2) / 153) + 2) / 5 + 1) := by
    rw [hdoy, hyoe, hdoe, he]; rfl
  have hera : era ≤ 25 := by omega
  have hS : eS yoe ≤ 145731 := by unfold eS; omega
  obtain ⟨m, hm⟩ : ∃ m, m = (5 * doy + 2) / 153 := ⟨_, rfl⟩
  rw [← hm] at hof
  have hm11 : m ≤ 11 := by omega
  have hmar : 365 * (yoe + 400 * era) + (yoe + 400 * era) / 4 - (yoe + 400 * era) / 100 + (yoe + 400 * era) / 400 = 146097 * era + eS yoe := by unfold eS; omega
  have hd1 : (153 * m + 2) / 5 ≤ doy := by omega
  have hval : marN (yoe + 400 * era) m (doy - (153 * m + 2) / 5 + 1) = (d : Int) := by
    unfold marN; omega
  by_cases h10 : m ≥ 10
  · rw [hof, if_pos h10]
    show dateB (yoe + 400 * era + 1) (m - 9) (doy - (153 * m + 2) / 5 + 1) = true ∧ dayNo (yoe + 400 * era + 1) (m - 9) (doy - (153 * m + 2) / 5 + 1) = d
    have hy : yoe + 400 * era + 1 ≤ 9999 := by
      have := hmar
      omega
    have hml : doy - (153 * m + 2) / 5 + 1 ≤ mlen (yoe + 400 * era + 1) (m - 9) := by
      rw [mlen_at _ _ (by omega) (by omega)]
      by_cases hf : m - 9 = 2
      · rw [if_pos hf]
        rcases hlp with h | ⟨h1, h2⟩
        · split <;> omega
        · rw [if_pos h2]; omega
      · rw [if_neg hf, if_neg (by omega)]; omega
    refine ⟨?_, ?_⟩
    · simp only [dateB, Bool.and_eq_true, decide_eq_true_eq]
      exact ⟨by omega, hy, by omega, by omega, by omega, hml⟩
    · have := dayNo_mar (y := yoe + 400 * era + 1) (m := m - 9) (d := doy - (153 * m + 2) / 5 + 1) (by omega) (by omega) (by omega) (by omega)
      rw [if_pos (by omega), show yoe + 400 * era + 1 - 1 = yoe + 400 * era by omega, show m - 9 + 9 = m by omega, hval] at this
      omega
  · rw [hof, if_neg h10]
    show dateB (yoe + 400 * era) (m + 3) (doy - (153 * m + 2) / 5 + 1) = true ∧ dayNo (yoe + 400 * era) (m + 3) (doy - (153 * m + 2) / 5 + 1) = d
    have hy0 : 1 ≤ yoe + 400 * era := by
      rcases Nat.eq_zero_or_pos (yoe + 400 * era) with h | h
      · exfalso
        have h1 : yoe = 0 := by omega
        have h2 : era = 0 := by omega
        subst h1 h2
        have : eS 0 = 0 := by decide
        omega
      · exact h
    have hy : yoe + 400 * era ≤ 9999 := by
      have := hmar
      omega
    have hml : doy - (153 * m + 2) / 5 + 1 ≤ mlen (yoe + 400 * era) (m + 3) := by
      rw [mlen_at _ _ (by omega) (by omega), if_neg (by omega)]
      rcases (by omega : m = 0 ∨ m = 1 ∨ m = 2 ∨ m = 3 ∨ m = 4 ∨ m = 5 ∨ m = 6 ∨ m = 7 ∨ m = 8 ∨ m = 9) with h | h | h | h | h | h | h | h | h | h <;> (rw [h]; split <;> omega)
    refine ⟨?_, ?_⟩
    · simp only [dateB, Bool.and_eq_true, decide_eq_true_eq]
      exact ⟨hy0, hy, by omega, by omega, by omega, hml⟩
    · have := dayNo_mar (y := yoe + 400 * era) (m := m + 3) (d := doy - (153 * m + 2) / 5 + 1) hy0 (by omega) (by omega) (by omega)
      rw [if_neg (by omega), show m + 3 - 3 = m by omega, hval] at this
      omega
end Go.Proofs.YtbmcplnfamgpcaaDoor
