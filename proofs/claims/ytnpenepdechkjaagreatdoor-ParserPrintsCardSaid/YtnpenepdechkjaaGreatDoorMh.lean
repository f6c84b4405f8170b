/- The reference: its tests on bytes, and its dates. -/
import Derived.Test.YtnpenepdechkjaaGreatDoorMa
namespace Go.Proofs.YtnpenepdechkjaaGreatDoor
open Go Go.RowKit

set_option maxHeartbeats 4000000 in
set_option maxRecDepth 100000 in
theorem rleap_any (y : Nat) (w : World) (hy : y ≤ 100000) : Calls Tryz.prog 164 #[.int .i64 y] w (BQ (leap y) w) := by
 go_enter Tryz.func164, Tryz.ntmps164
 go_wp2
 all_goals go_ret
 all_goals refine ⟨ret_bool (leap_of ?_), rfl⟩
 all_goals simp
 all_goals omega
set_option maxHeartbeats 4000000 in
set_option maxRecDepth 100000 in
theorem rlength_any (y m : Nat) (w : World) (hy : y ≤ 100000) (hm1 : 1 ≤ m) (hm : m ≤ 12) : Calls Tryz.prog 142 #[.int .i64 y, .int .i64 m] w (fun e w' => e = .returned (.int .i64 (mlen y m)) ∧ w' = w) := by
 have HL := Lib.hid (fun X => rleap_any y X hy)
 rcases (by omega : m = 1 ∨ m = 3 ∨ m = 4 ∨ m = 5 ∨ m = 6 ∨ m = 7 ∨ m = 8 ∨ m = 9 ∨ m = 10 ∨ m = 11 ∨ m = 12 ∨ m = 2) with rfl | rfl | rfl | rfl | rfl | rfl | rfl | rfl | rfl | rfl | rfl | rfl
 iterate 11
  ·go_enter Tryz.func142, Tryz.ntmps142
   go_wp2
   go_ret
   exact ⟨ret_int rfl, rfl⟩
 cases hl : leap y with
 | true =>
  have HE := Lib.hid (show mlen y 2 = 29 by simp [mlen, hl])
  rw [hl] at HL
  clear hl
  go_enter Tryz.func142, Tryz.ntmps142
  go_wp2_with (first | (go_at_call 164; refine (HL.out _).mono ?_; rintro e w1 ⟨rfl, rfl⟩))
  go_ret
  exact ⟨ret_int (by rw [HE.out]; rfl), rfl⟩
 | false =>
  have HE := Lib.hid (show mlen y 2 = 28 by simp [mlen, hl])
  rw [hl] at HL
  clear hl
  go_enter Tryz.func142, Tryz.ntmps142
  go_wp2_with (first | (go_at_call 164; refine (HL.out _).mono ?_; rintro e w1 ⟨rfl, rfl⟩))
  go_ret
  exact ⟨ret_int (by rw [HE.out]; rfl), rfl⟩
theorem rstart_any (y : Nat) (w : World) (hy : 1 ≤ y) (hy2 : y ≤ 10000) : Calls Tryz.prog 141 #[.int .i64 y] w (fun e w' => e = .returned (.int .i64 (365 * (y - 1) + (y - 1) / 4 - (y - 1) / 100 + (y - 1) / 400 : Nat)) ∧ w' = w) := by
 obtain ⟨y, rfl⟩ : ∃ k, y = k + 1 := ⟨y - 1, by omega⟩
 go_enter Tryz.func141, Tryz.ntmps141
 go_wp2
 go_ret
 exact ⟨ret_int (by omega), rfl⟩
end Go.Proofs.YtnpenepdechkjaaGreatDoor
