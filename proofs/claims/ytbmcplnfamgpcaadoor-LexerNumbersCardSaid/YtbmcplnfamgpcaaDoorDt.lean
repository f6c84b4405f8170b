/- The contracts of package date's Leap, Length, Check, number, Day, on dates of small numbers. -/
import Derived.Test.YtbmcplnfamgpcaaDoorNm
import Derived.BigQuiet
namespace Go.Proofs.YtbmcplnfamgpcaaDoor
open Go Go.RowKit

theorem leap_of {y : Nat} {b : Bool} (h : b = true ↔ (y % 4 = 0 ∧ (y % 100 ≠ 0 ∨ y % 400 = 0))) : b = leap y := by
  rw [Bool.eq_iff_iff, h, leap]
  simp only [Bool.and_eq_true, Bool.or_eq_true, Bool.not_eq_true', decide_eq_true_eq, decide_eq_false_iff_not, ne_eq]
set_option maxHeartbeats 4000000 in
set_option maxRecDepth 100000 in
theorem leap_any (y : Nat) (w : World) (hy : y ≤ 100000) : Calls Tryd.prog 107 #[.int .i64 y] w (BQ (leap y) w) := by
  go_enter Tryd.func107, Tryd.ntmps107
  go_wp2
  all_goals go_ret
  all_goals refine ⟨ret_bool (leap_of ?_), rfl⟩
  all_goals simp
  all_goals omega
/-- The lengths of the months, in every later world. -/
def EnvL (w : World) : Prop := ∀ W, Ext w W → W.var? Tryd.prog "rollbook/date.lengths" = some (Array.map (fun i => Value.int .i64 i) #[0, 31, 28, 31, 30, 31, 30, 31, 31, 30, 31, 30, 31])
set_option maxHeartbeats 4000000 in
set_option maxRecDepth 100000 in
theorem length_any (y m : Nat) (w : World) (hy : y ≤ 100000) (hm : m ≤ 1000) (hL : EnvL w) : Calls Tryd.prog 97 #[.int .i64 y, .int .i64 m] w (fun e w' => e = .returned (.int .i64 (mlen y m)) ∧ w' = w) := by
  have HL := Lib.hid (fun X => leap_any y X hy)
  have hv := hL w (Ext.refl w)
  have hg : Tryd.prog.globalNamed "rollbook/date.lengths" = some 4 := by kernel_rfl
  have hcs := World.var?_cell hg hv
  by_cases h2 : m = 2
  · subst h2
    cases hl : leap y with
    | true =>
      have HE := Lib.hid (show mlen y 2 = 29 by simp [mlen, hl])
      rw [hl] at HL
      clear hl hcs hv
      go_enter Tryd.func97, Tryd.ntmps97
      go_wp2_with (first | (go_at_call 107; refine (HL.out _).mono ?_; rintro e w1 ⟨rfl, rfl⟩))
      go_ret
      exact ⟨ret_int (by rw [HE.out]; rfl), rfl⟩
    | false =>
      have HE := Lib.hid (show mlen y 2 = 28 by simp [mlen, hl])
      rw [hl] at HL
      have hc2 := hcs 2
      simp at hc2
      clear hl hcs hv
      go_enter Tryd.func97, Tryd.ntmps97
      go_wp2_with (first | (go_at_call 107; refine (HL.out _).mono ?_; rintro e w1 ⟨rfl, rfl⟩))
      go_ret
      exact ⟨ret_int (by rw [HE.out]; rfl), rfl⟩
  · have hc := hcs m
    clear hcs hv
    by_cases h1 : 1 ≤ m
    · by_cases h12 : m ≤ 12
      · obtain ⟨v, hc2, hE⟩ : ∃ v : Int, w.cell? ⟨4, m, none⟩ = some (.int .i64 v) ∧ v = (mlen y m : Nat) := by
          rcases (by omega : m = 1 ∨ m = 3 ∨ m = 4 ∨ m = 5 ∨ m = 6 ∨ m = 7 ∨ m = 8 ∨ m = 9 ∨ m = 10 ∨ m = 11 ∨ m = 12) with rfl | rfl | rfl | rfl | rfl | rfl | rfl | rfl | rfl | rfl | rfl <;> exact ⟨_, by rw [hc]; simp [mlen], rfl⟩
        have HE := Lib.hid hE
        have h2' : ((m : Int) == 2) = false := by rw [beq_eq_false_iff_ne]; omega
        have h1' : ¬ (m : Int) < 1 := by omega
        have h12' : ¬ (12 : Int) < (m : Int) := by omega
        have h13 : m < 13 := by omega
        clear hc hE h2
        go_enter Tryd.func97, Tryd.ntmps97
        go_wp2_with (first | (go_at_call 107; refine (HL.out _).mono ?_; rintro e w1 ⟨rfl, rfl⟩))
        go_ret
        exact ⟨ret_int HE.out, rfl⟩
      · have HE := Lib.hid (show mlen y m = 0 by rw [mlen, if_neg h2, if_neg (by omega), if_neg (by omega)])
        have h12' : (12 : Int) < (m : Int) := by omega
        have h1' : ¬ (m : Int) < 1 := by omega
        clear hc
        go_enter Tryd.func97, Tryd.ntmps97
        go_wp2_with (first | (go_at_call 107; refine (HL.out _).mono ?_; rintro e w1 ⟨rfl, rfl⟩))
        go_ret
        exact ⟨ret_int (by rw [HE.out]; rfl), rfl⟩
    · obtain rfl : m = 0 := by omega
      clear hc
      go_enter Tryd.func97, Tryd.ntmps97
      go_wp2_with (first | (go_at_call 107; refine (HL.out _).mono ?_; rintro e w1 ⟨rfl, rfl⟩))
      go_ret
      exact ⟨ret_int (by simp [mlen]), rfl⟩
theorem EnvL.ext {w w' : World} (h : EnvL w) (hx : Ext w w') : EnvL w' := fun W hW => h W (hx.trans hW)
def chkE (y m d : Nat) : Int := if dateB y m d then 0 else 5
theorem chk_no {y m d : Nat} (h : y < 1 ∨ 9999 < y ∨ m < 1 ∨ 12 < m ∨ d < 1 ∨ mlen y m < d) : chkE y m d = 5 := by
  rw [chkE, if_neg]
  simp only [dateB, Bool.and_eq_true, decide_eq_true_eq]
  omega
theorem chk_yes {y m d : Nat} (h1 : 1 ≤ y) (h2 : y ≤ 9999) (h3 : 1 ≤ m) (h4 : m ≤ 12) (h5 : 1 ≤ d) (h6 : d ≤ mlen y m) : chkE y m d = 0 := by
  rw [chkE, if_pos]
  simp only [dateB, Bool.and_eq_true, decide_eq_true_eq]
  omega
theorem mlen_le (y m : Nat) : mlen y m ≤ 31 := by
  rw [mlen]; repeat (first | omega | split)
set_option maxHeartbeats 4000000 in
set_option maxRecDepth 100000 in
theorem check_any (y m d : Nat) (w : World) (hy : y ≤ 100000) (hm : m ≤ 1000) (hd : d ≤ 1000) (hL : EnvL w) : Calls Tryd.prog 84 #[.agg #[.int .i64 y, .int .i64 m, .int .i64 d]] w (IntPost (chkE y m d) w) := by
  have HL := Lib.hid (fun X (hX : Ext w X) => length_any y m X hy hm (hL.ext hX))
  by_cases h1 : y < 1
  · have HE := Lib.hid (chk_no (y := y) (m := m) (d := d) (.inl h1))
    have g1 : decide ((y : Int) < 1) = true := decide_eq_true (by omega)
    go_enter Tryd.func84, Tryd.ntmps84
    go_wp2
    go_quiet (fail)
    go_wp2
    go_ret
    exact ⟨ret_int HE.out.symm, ((Ext.refl _).alloc _).drewN _⟩
  · have g1 : decide ((y : Int) < 1) = false := decide_eq_false (by omega)
    by_cases h2 : 9999 < y
    · have HE := Lib.hid (chk_no (y := y) (m := m) (d := d) (.inr (.inl h2)))
      have g2 : decide ((9999 : Int) < (y : Int)) = true := decide_eq_true (by omega)
      go_enter Tryd.func84, Tryd.ntmps84
      go_wp2
      go_quiet (fail)
      go_wp2
      go_ret
      exact ⟨ret_int HE.out.symm, ((Ext.refl _).alloc _).drewN _⟩
    · have g2 : decide ((9999 : Int) < (y : Int)) = false := decide_eq_false (by omega)
      by_cases h3 : m < 1
      · have HE := Lib.hid (chk_no (y := y) (m := m) (d := d) (.inr (.inr (.inl h3))))
        have g3 : decide ((m : Int) < 1) = true := decide_eq_true (by omega)
        go_enter Tryd.func84, Tryd.ntmps84
        go_wp2
        go_quiet (fail)
        go_wp2
        go_ret
        exact ⟨ret_int HE.out.symm, ((Ext.refl _).alloc _).drewN _⟩
      · have g3 : decide ((m : Int) < 1) = false := decide_eq_false (by omega)
        by_cases h4 : 12 < m
        · have HE := Lib.hid (chk_no (y := y) (m := m) (d := d) (.inr (.inr (.inr (.inl h4)))))
          have g4 : decide ((12 : Int) < (m : Int)) = true := decide_eq_true (by omega)
          go_enter Tryd.func84, Tryd.ntmps84
          go_wp2
          go_quiet (fail)
          go_wp2
          go_ret
          exact ⟨ret_int HE.out.symm, ((Ext.refl _).alloc _).drewN _⟩
        · have g4 : decide ((12 : Int) < (m : Int)) = false := decide_eq_false (by omega)
          by_cases h5 : d < 1
          · have HE := Lib.hid (chk_no (y := y) (m := m) (d := d) (.inr (.inr (.inr (.inr (.inl h5))))))
            have g5 : decide ((d : Int) < 1) = true := decide_eq_true (by omega)
            go_enter Tryd.func84, Tryd.ntmps84
            go_wp2
            go_quiet (fail)
            go_wp2
            go_ret
            exact ⟨ret_int HE.out.symm, ((Ext.refl _).alloc _).drewN _⟩
          · have g5 : decide ((d : Int) < 1) = false := decide_eq_false (by omega)
            by_cases h6 : mlen y m < d
            · have HE := Lib.hid (chk_no (y := y) (m := m) (d := d) (.inr (.inr (.inr (.inr (.inr (h6)))))))
              have g6 : decide (((mlen y m : Nat) : Int) < (d : Int)) = true := decide_eq_true (by omega)
              obtain ⟨L, hLn⟩ : ∃ L, L = mlen y m := ⟨_, rfl⟩
              rw [← hLn] at HL g6 h6
              clear hLn
              go_enter Tryd.func84, Tryd.ntmps84
              go_wp2
              go_quiet (first | (go_at_call 97; refine Calls.quiet_of_same ((HL.out _ (by repeat (first | exact Ext.refl _ | apply Ext.alloc | apply Ext.drewN | apply Ext.drew))).mono fun _ _ h => h)))
              go_wp2
              go_ret
              exact ⟨ret_int HE.out.symm, ((Ext.refl _).alloc _).drewN _⟩
            · have HE := Lib.hid (chk_yes (y := y) (m := m) (d := d) (by omega) (by omega) (by omega) (by omega) (by omega) (by omega))
              have g6 : decide (((mlen y m : Nat) : Int) < (d : Int)) = false := decide_eq_false (by omega)
              obtain ⟨L, hLn⟩ : ∃ L, L = mlen y m := ⟨_, rfl⟩
              rw [← hLn] at HL g6 h6
              clear hLn
              go_enter Tryd.func84, Tryd.ntmps84
              go_wp2
              go_quiet (first | (go_at_call 97; refine Calls.quiet_of_same ((HL.out _ (by repeat (first | exact Ext.refl _ | apply Ext.alloc | apply Ext.drewN | apply Ext.drew))).mono fun _ _ h => h)))
              go_wp2
              go_ret
              exact ⟨ret_int HE.out.symm, ((Ext.refl _).alloc _).drewN _⟩
end Go.Proofs.YtbmcplnfamgpcaaDoor
