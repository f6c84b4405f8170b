/- The reference: its tests on bytes, and its dates. -/
import Derived.Test.YtnpenepdechkjaaGreatDoorMc
namespace Go.Proofs.YtnpenepdechkjaaGreatDoor
open Go Go.RowKit

theorem rletter_any (c : UInt8) (w : World) : Calls Tryz.prog 120 #[.int .u8 (c.toNat : Int)] w (BQ (low c) w) := by
  by_cases h1 : 97 ≤ c.toNat
  · have g1 : 97 ≤ (c.toNat : Int) := by omega
    by_cases h2 : c.toNat ≤ 122
    · have HF := Lib.hid (show low c = true by simp [low, h1, h2])
      have g2 : (c.toNat : Int) ≤ 122 := by omega
      clear h1 h2
      go_enter Tryz.func120, Tryz.ntmps120
      go_wp2
      go_ret
      exact ⟨ret_bool (by rw [HF.out]), rfl⟩
    · have HF := Lib.hid (show low c = false by simp [low, h2])
      have g2 : ¬ (c.toNat : Int) ≤ 122 := by omega
      clear h1 h2
      go_enter Tryz.func120, Tryz.ntmps120
      go_wp2
      go_ret
      exact ⟨ret_bool (by rw [HF.out]), rfl⟩
  · have HF := Lib.hid (show low c = false by simp [low, h1])
    have g1 : ¬ 97 ≤ (c.toNat : Int) := by omega
    clear h1
    go_enter Tryz.func120, Tryz.ntmps120
    go_wp2
    go_ret
    exact ⟨ret_bool (by rw [HF.out]), rfl⟩
theorem rdigit_any (c : UInt8) (w : World) : Calls Tryz.prog 121 #[.int .u8 (c.toNat : Int)] w (BQ (dig c) w) := by
  by_cases h1 : 48 ≤ c.toNat
  · have g1 : 48 ≤ (c.toNat : Int) := by omega
    by_cases h2 : c.toNat ≤ 57
    · have HF := Lib.hid (show dig c = true by simp [dig, h1, h2])
      have g2 : (c.toNat : Int) ≤ 57 := by omega
      clear h1 h2
      go_enter Tryz.func121, Tryz.ntmps121
      go_wp2
      go_ret
      exact ⟨ret_bool (by rw [HF.out]), rfl⟩
    · have HF := Lib.hid (show dig c = false by simp [dig, h2])
      have g2 : ¬ (c.toNat : Int) ≤ 57 := by omega
      clear h1 h2
      go_enter Tryz.func121, Tryz.ntmps121
      go_wp2
      go_ret
      exact ⟨ret_bool (by rw [HF.out]), rfl⟩
  · have HF := Lib.hid (show dig c = false by simp [dig, h1])
    have g1 : ¬ 48 ≤ (c.toNat : Int) := by omega
    clear h1
    go_enter Tryz.func121, Tryz.ntmps121
    go_wp2
    go_ret
    exact ⟨ret_bool (by rw [HF.out]), rfl⟩
theorem eq_nat {c : UInt8} {k : Nat} (hk : k < 256) : c = UInt8.ofNat k ↔ c.toNat = k := by
  constructor
  · rintro rfl; simp; omega
  · intro h; apply UInt8.toNat_inj.1; rw [h]; simp; omega
theorem blk_iff (c : UInt8) : blk c = true ↔ (c.toNat = 9 ∨ c.toNat = 10 ∨ c.toNat = 13 ∨ c.toNat = 32) := by
  have e9 := eq_nat (c := c) (k := 9) (by omega)
  have e10 := eq_nat (c := c) (k := 10) (by omega)
  have e13 := eq_nat (c := c) (k := 13) (by omega)
  have e32 := eq_nat (c := c) (k := 32) (by omega)
  simp only [blk, Bool.or_eq_true, decide_eq_true_eq]
  rw [← e9, ← e10, ← e13, ← e32]
  rfl
theorem rblank_any (c : UInt8) (w : World) : Calls Tryz.prog 119 #[.int .u8 (c.toNat : Int)] w (BQ (blk c) w) := by
  by_cases h9 : c.toNat = 9
  · have HF := Lib.hid (show blk c = true by rw [blk_iff]; omega)
    have g9 : ((c.toNat : Int) == 9) = true := by rw [beq_iff_eq]; omega
    clear h9
    go_enter Tryz.func119, Tryz.ntmps119
    go_wp2
    go_ret
    exact ⟨ret_bool (by rw [HF.out]), rfl⟩
  · have g9 : ((c.toNat : Int) == 9) = false := by rw [beq_eq_false_iff_ne]; omega
    by_cases h10 : c.toNat = 10
    · have HF := Lib.hid (show blk c = true by rw [blk_iff]; omega)
      have g10 : ((c.toNat : Int) == 10) = true := by rw [beq_iff_eq]; omega
      clear h9 h10
      go_enter Tryz.func119, Tryz.ntmps119
      go_wp2
      go_ret
      exact ⟨ret_bool (by rw [HF.out]), rfl⟩
    · have g10 : ((c.toNat : Int) == 10) = false := by rw [beq_eq_false_iff_ne]; omega
      by_cases h13 : c.toNat = 13
      · have HF := Lib.hid (show blk c = true by rw [blk_iff]; omega)
        have g13 : ((c.toNat : Int) == 13) = true := by rw [beq_iff_eq]; omega
        clear h9 h10 h13
        go_enter Tryz.func119, Tryz.ntmps119
        go_wp2
        go_ret
        exact ⟨ret_bool (by rw [HF.out]), rfl⟩
      · have g13 : ((c.toNat : Int) == 13) = false := by rw [beq_eq_false_iff_ne]; omega
        by_cases h32 : c.toNat = 32
        · have HF := Lib.hid (show blk c = true by rw [blk_iff]; omega)
          have g32 : ((c.toNat : Int) == 32) = true := by rw [beq_iff_eq]; omega
          clear h9 h10 h13 h32
          go_enter Tryz.func119, Tryz.ntmps119
          go_wp2
          go_ret
          exact ⟨ret_bool (by rw [HF.out]), rfl⟩
        · have g32 : ((c.toNat : Int) == 32) = false := by rw [beq_eq_false_iff_ne]; omega
          have HF := Lib.hid (show blk c = false by rw [Bool.eq_false_iff]; intro h; rw [blk_iff] at h; omega)
          clear h9 h10 h13 h32
          go_enter Tryz.func119, Tryz.ntmps119
          go_wp2
          go_ret
          exact ⟨ret_bool (by rw [HF.out]), rfl⟩
set_option maxHeartbeats 4000000 in
set_option maxRecDepth 100000 in
theorem rleap_any (y : Nat) (w : World) (hy : y ≤ 100000) : Calls Tryz.prog 164 #[.int .i64 y] w (BQ (leap y) w) := by
  go_enter Tryz.func164, Tryz.ntmps164
  go_wp2
  all_goals go_ret
  all_goals refine ⟨ret_bool (leap_of ?_), rfl⟩
  all_goals simp
  all_goals omega
set_option maxHeartbeats 4000000 in
set_option maxRecDepth 100000 in
theorem rlength_any (y m : Nat) (w : World) (hy : y ≤ 100000) (hm1 : 1 ≤ m) (hm : m ≤ 12) : Calls Tryz.prog 142 #[.int .i64 y, .int .i64 m] w (fun e w' => e = .returned (.int .i64 (mlen y m)) ∧ w' = w) := by
  have HL := Lib.hid (fun X => rleap_any y X hy)
  rcases (by omega : m = 1 ∨ m = 3 ∨ m = 4 ∨ m = 5 ∨ m = 6 ∨ m = 7 ∨ m = 8 ∨ m = 9 ∨ m = 10 ∨ m = 11 ∨ m = 12 ∨ m = 2) with rfl | rfl | rfl | rfl | rfl | rfl | rfl | rfl | rfl | rfl | rfl | rfl
  iterate 11
    · go_enter Tryz.func142, Tryz.ntmps142
      go_wp2
      go_ret
      exact ⟨ret_int rfl, rfl⟩
  cases hl : leap y with
  | true =>
    have HE := Lib.hid (show mlen y 2 = 29 by simp [mlen, hl])
    rw [hl] at HL
    clear hl
    go_enter Tryz.func142, Tryz.ntmps142
    go_wp2_with (first | (go_at_call 164; refine (HL.out _).mono ?_; rintro e w1 ⟨rfl, rfl⟩))
    go_ret
    exact ⟨ret_int (by rw [HE.out]; rfl), rfl⟩
  | false =>
    have HE := Lib.hid (show mlen y 2 = 28 by simp [mlen, hl])
    rw [hl] at HL
    clear hl
    go_enter Tryz.func142, Tryz.ntmps142
    go_wp2_with (first | (go_at_call 164; refine (HL.out _).mono ?_; rintro e w1 ⟨rfl, rfl⟩))
    go_ret
    exact ⟨ret_int (by rw [HE.out]; rfl), rfl⟩
set_option maxHeartbeats 4000000 in
set_option maxRecDepth 100000 in
theorem rcheck_any (y m d : Nat) (w : World) (hy : y ≤ 100000) (hm : m ≤ 1000) (hd : d ≤ 1000) : Calls Tryz.prog 179 #[.agg #[.int .i64 y, .int .i64 m, .int .i64 d]] w (IntPost (chkE y m d) w) := by

  by_cases h1 : y < 1
  · have HE := Lib.hid (chk_no (y := y) (m := m) (d := d) (.inl h1))
    have g1 : decide ((y : Int) < 1) = true := decide_eq_true (by omega)
    go_enter Tryz.func179, Tryz.ntmps179
    go_wp2
    go_quiet (fail)
    go_wp2
    go_ret
    exact ⟨ret_int HE.out.symm, ((Ext.refl _).alloc _).drewN _⟩
  · have g1 : decide ((y : Int) < 1) = false := decide_eq_false (by omega)
    by_cases h2 : 9999 < y
    · have HE := Lib.hid (chk_no (y := y) (m := m) (d := d) (.inr (.inl h2)))
      have g2 : decide ((9999 : Int) < (y : Int)) = true := decide_eq_true (by omega)
      go_enter Tryz.func179, Tryz.ntmps179
      go_wp2
      go_quiet (fail)
      go_wp2
      go_ret
      exact ⟨ret_int HE.out.symm, ((Ext.refl _).alloc _).drewN _⟩
    · have g2 : decide ((9999 : Int) < (y : Int)) = false := decide_eq_false (by omega)
      by_cases h3 : m < 1
      · have HE := Lib.hid (chk_no (y := y) (m := m) (d := d) (.inr (.inr (.inl h3))))
        have g3 : decide ((m : Int) < 1) = true := decide_eq_true (by omega)
        go_enter Tryz.func179, Tryz.ntmps179
        go_wp2
        go_quiet (fail)
        go_wp2
        go_ret
        exact ⟨ret_int HE.out.symm, ((Ext.refl _).alloc _).drewN _⟩
      · have g3 : decide ((m : Int) < 1) = false := decide_eq_false (by omega)
        by_cases h4 : 12 < m
        · have HE := Lib.hid (chk_no (y := y) (m := m) (d := d) (.inr (.inr (.inr (.inl h4)))))
          have g4 : decide ((12 : Int) < (m : Int)) = true := decide_eq_true (by omega)
          go_enter Tryz.func179, Tryz.ntmps179
          go_wp2
          go_quiet (fail)
          go_wp2
          go_ret
          exact ⟨ret_int HE.out.symm, ((Ext.refl _).alloc _).drewN _⟩
        · have g4 : decide ((12 : Int) < (m : Int)) = false := decide_eq_false (by omega)
          by_cases h5 : d < 1
          · have HE := Lib.hid (chk_no (y := y) (m := m) (d := d) (.inr (.inr (.inr (.inr (.inl h5))))))
            have g5 : decide ((d : Int) < 1) = true := decide_eq_true (by omega)
            go_enter Tryz.func179, Tryz.ntmps179
            go_wp2
            go_quiet (fail)
            go_wp2
            go_ret
            exact ⟨ret_int HE.out.symm, ((Ext.refl _).alloc _).drewN _⟩
          · have g5 : decide ((d : Int) < 1) = false := decide_eq_false (by omega)
            have HL := Lib.hid (fun X => rlength_any y m X hy (by omega) (by omega))
            by_cases h6 : mlen y m < d
            · have HE := Lib.hid (chk_no (y := y) (m := m) (d := d) (.inr (.inr (.inr (.inr (.inr (h6)))))))
              have g6 : decide (((mlen y m : Nat) : Int) < (d : Int)) = true := decide_eq_true (by omega)
              obtain ⟨L, hLn⟩ : ∃ L, L = mlen y m := ⟨_, rfl⟩
              rw [← hLn] at HL g6 h6
              clear hLn
              go_enter Tryz.func179, Tryz.ntmps179
              go_wp2
              go_quiet (first | (go_at_call 142; refine Calls.quiet_of_same ((HL.out _).mono fun _ _ h => h)))
              go_wp2
              go_ret
              exact ⟨ret_int HE.out.symm, ((Ext.refl _).alloc _).drewN _⟩
            · have HE := Lib.hid (chk_yes (y := y) (m := m) (d := d) (by omega) (by omega) (by omega) (by omega) (by omega) (by omega))
              have g6 : decide (((mlen y m : Nat) : Int) < (d : Int)) = false := decide_eq_false (by omega)
              obtain ⟨L, hLn⟩ : ∃ L, L = mlen y m := ⟨_, rfl⟩
              rw [← hLn] at HL g6 h6
              clear hLn
              go_enter Tryz.func179, Tryz.ntmps179
              go_wp2
              go_quiet (first | (go_at_call 142; refine Calls.quiet_of_same ((HL.out _).mono fun _ _ h => h)))
              go_wp2
              go_ret
              exact ⟨ret_int HE.out.symm, ((Ext.refl _).alloc _).drewN _⟩
theorem rstart_any (y : Nat) (w : World) (hy : 1 ≤ y) (hy2 : y ≤ 10000) : Calls Tryz.prog 141 #[.int .i64 y] w (fun e w' => e = .returned (.int .i64 (365 * (y - 1) + (y - 1) / 4 - (y - 1) / 100 + (y - 1) / 400 : Nat)) ∧ w' = w) := by
  obtain ⟨y, rfl⟩ : ∃ k, y = k + 1 := ⟨y - 1, by omega⟩
  go_enter Tryz.func141, Tryz.ntmps141
  go_wp2
  go_ret
  exact ⟨ret_int (by omega), rfl⟩
end Go.Proofs.YtnpenepdechkjaaGreatDoor
