/- The contracts of date.number and date.Day. -/
import Derived.Test.YtbmcplnfamgpcaaDoorDt
namespace Go.Proofs.YtbmcplnfamgpcaaDoor
open Go Go.RowKit

/-- The code's own formula; the year begins in March. -/
def marN (y m d : Nat) : Int := 365 * (y : Int) + y / 4 - y / 100 + y / 400 + (153 * m + 2) / 5 + d - 307
set_option maxHeartbeats 4000000 in
set_option maxRecDepth 100000 in
theorem number_any (y m d : Nat) (w : World) (hy : 1 ≤ y) (hy2 : y ≤ 9999) (hm1 : 1 ≤ m) (hm : m ≤ 12) (hd : d ≤ 31) :
    Calls Tryd.prog 85 #[.agg #[.int .i64 y, .int .i64 m, .int .i64 d]] w (fun e w' => e = .returned (.int .i64 (if m < 3 then marN (y - 1) (m + 9) d else marN y (m - 3) d)) ∧ Ext w w') := by
  by_cases h3 : m < 3
  · have h3' : (m : Int) - 3 < 0 := by omega
    rw [if_pos h3]
    obtain ⟨y, rfl⟩ : ∃ k, y = k + 1 := ⟨y - 1, by omega⟩
    go_enter Tryd.func85, Tryd.ntmps85
    go_wp2
    go_quiet (fail)
    go_wp2
    go_ret
    exact ⟨ret_int (by rw [marN]; omega), ((Ext.refl _).alloc _).drewN _⟩
  · have h3' : ¬ (m : Int) - 3 < 0 := by omega
    rw [if_neg h3]
    go_enter Tryd.func85, Tryd.ntmps85
    go_wp2
    go_quiet (fail)
    go_wp2
    go_ret
    exact ⟨ret_int (by rw [marN]; omega), ((Ext.refl _).alloc _).drewN _⟩
theorem leap_true {y : Nat} (h : leap y = true) : y % 4 = 0 ∧ (y % 100 ≠ 0 ∨ y % 400 = 0) := by
  simpa only [leap, Bool.and_eq_true, Bool.or_eq_true, Bool.not_eq_true', decide_eq_true_eq, decide_eq_false_iff_not, ne_eq] using h
theorem leap_false {y : Nat} (h : leap y = false) : ¬ (y % 4 = 0 ∧ (y % 100 ≠ 0 ∨ y % 400 = 0)) := by
  intro h2
  have : leap y = true := by
    simpa only [leap, Bool.and_eq_true, Bool.or_eq_true, Bool.not_eq_true', decide_eq_true_eq, decide_eq_false_iff_not, ne_eq] using h2
  rw [h] at this; cases this
def cumN : Nat → Nat
  | 3 => 59 | 4 => 90 | 5 => 120 | 6 => 151 | 7 => 181 | 8 => 212 | 9 => 243 | 10 => 273 | 11 => 304 | 12 => 334 | _ => 0
theorem mdays_of (y m : Nat) (h1 : 3 ≤ m) (h2 : m ≤ 12) : mdays y m = cumN m + (if leap y then 1 else 0) := by
  rcases (by omega : m = 3 ∨ m = 4 ∨ m = 5 ∨ m = 6 ∨ m = 7 ∨ m = 8 ∨ m = 9 ∨ m = 10 ∨ m = 11 ∨ m = 12) with rfl | rfl | rfl | rfl | rfl | rfl | rfl | rfl | rfl | rfl <;>
    (cases hl : leap y <;> simp [mdays, mlen, hl, cumN])
theorem cum_mar (m : Nat) (h1 : 3 ≤ m) (h2 : m ≤ 12) : (153 * (m - 3) + 2) / 5 + 59 = cumN m := by
  rcases (by omega : m = 3 ∨ m = 4 ∨ m = 5 ∨ m = 6 ∨ m = 7 ∨ m = 8 ∨ m = 9 ∨ m = 10 ∨ m = 11 ∨ m = 12) with rfl | rfl | rfl | rfl | rfl | rfl | rfl | rfl | rfl | rfl <;> rfl
/-- The code's formula is the number of the day. -/
theorem dayNo_mar {y m d : Nat} (hy : 1 ≤ y) (hm1 : 1 ≤ m) (hm : m ≤ 12) (hd : 1 ≤ d) : (if m < 3 then marN (y - 1) (m + 9) d else marN y (m - 3) d) = (dayNo y m d : Nat) := by
  by_cases h3 : m < 3
  · rw [if_pos h3]
    rcases (by omega : m = 1 ∨ m = 2) with rfl | rfl
    · rw [marN, dayNo, show mdays y 1 = 0 from rfl]; omega
    · rw [marN, dayNo, show mdays y 2 = 31 by simp [mdays, mlen]]; omega
  · rw [if_neg h3, marN, dayNo, mdays_of y m (by omega) hm]
    have hc := cum_mar m (by omega) hm
    have hc2 : (153 * (m - 3) + 2) / 5 = cumN m - 59 ∧ 59 ≤ cumN m := by omega
    have hc3 : ((153 * ((m - 3 : Nat) : Int) + 2) / 5) = (cumN m : Int) - 59 := by omega
    rw [hc3]
    cases hl : leap y with
    | true => have := leap_true hl; simp only [if_true]; omega
    | false => have := leap_false hl; simp only [Bool.false_eq_true, if_false]; omega
end Go.Proofs.YtbmcplnfamgpcaaDoor
