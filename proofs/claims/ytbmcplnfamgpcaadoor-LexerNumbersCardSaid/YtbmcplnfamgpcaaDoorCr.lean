/- strings.ContainsRune of the white space, at the runes from 128 to 255. -/
import Derived.Test.YtbmcplnfamgpcaaDoorTm
import Derived.WalkMore
namespace Go.Proofs.YtbmcplnfamgpcaaDoor
open Go Go.RowKit

theorem idx_high (y : UInt8) (hy : 128 ≤ y.toNat) (X : World) : Calls Tryd.prog 45 #[.string ((⟨#[9, 10, 13, 32]⟩ : ByteArray).extract 2 4), .int .u8 (y.toNat : Int)] X fun e X' => e = .returned (.int .i64 (-1)) ∧ X' = X := by
  refine (Tryd.strings_IndexByte _ _ _).mono ?_
  rintro e X' ⟨rfl, rfl⟩
  refine ⟨?_, rfl⟩
  have e : ((⟨#[9, 10, 13, 32]⟩ : ByteArray).extract 2 4).data.toList = [13, 32] := by decide
  have e2 : ((y.toNat : Int)).toNat.toUInt8 = y := by simp
  rw [e, e2]
  have hm : ¬ 0 ≤ Lib.indexByte [13, 32] y := fun h => by
    have := (index_mem _ _).1 h
    simp at this
    rcases this with rfl | rfl <;> revert hy <;> decide
  have hg := Lib.indexByte_ge [13, 32] y
  rw [show Lib.indexByte [13, 32] y = -1 by omega]
set_option maxHeartbeats 4000000 in
set_option maxRecDepth 1000000 in
theorem idxr_high (r : Nat) (w : World) (h1 : 128 ≤ r) (h2 : r ≤ 255) : Calls Tryd.prog 46 #[.string ⟨#[9, 10, 13, 32]⟩, .int .i32 r] w (fun e w' => e = .returned (.int .i64 (-1)) ∧ Ext w w') := by
  have g1 : ¬ (r : Int) < 128 := by omega
  have g2 : ((r : Int) == 65533) = false := by rw [beq_eq_false_iff_ne]; omega
  have hvr : Lib.validRune (r : Int) = true := by unfold Lib.validRune; simp; omega
  have HV := Lib.hid (fun X => Tryd.utf8_ValidRune (r : Int) X)
  rw [hvr] at HV
  clear hvr
  have hcv : ∀ W : World, (convert 21 9 (.int .i32 (r : Int))).run Tryd.prog W = .ok (.string (Utf8.encode (r : Int))) W := fun W => by
    simp [convert, run_underlying Tryd.underlying21, run_underlying Tryd.underlying9, Conv.intToString]
  obtain ⟨x, y, hxy, hy1, hy2⟩ : ∃ x y : UInt8, Utf8.encode (r : Int) = ⟨#[x, y]⟩ ∧ 128 ≤ y.toNat ∧ y.toNat ≤ 255 := by
    have hv : Utf8.valid (r : Int) = true := by simp [Utf8.valid]; omega
    refine ⟨_, _, by unfold Utf8.encode; rw [if_pos hv, Int.toNat_natCast]; simp only; rw [if_neg (by omega), if_pos (by omega)], ?_, ?_⟩
    · rw [UInt8.toNat_ofNat']; omega
    · rw [UInt8.toNat_ofNat']; omega
  rw [hxy] at hcv
  clear hxy
  have hne : ∀ (p : 1 < (⟨#[9, 10, 13, 32]⟩ : ByteArray).size) (q : 1 < (⟨#[x, y]⟩ : ByteArray).size), ((((⟨#[9, 10, 13, 32]⟩ : ByteArray)[1]'p).toNat : Int) != (((⟨#[x, y]⟩ : ByteArray)[1]'q).toNat : Int)) = true := fun p q => by
    have e : ((10 : Int) != (y.toNat : Int)) = true := by rw [bne_iff_ne]; omega
    exact e
  have HI := Lib.hid (fun (z : UInt8) (hz : z = y) X => (idx_high z (by rw [hz]; exact hy1) X : Calls Tryd.prog 45 #[.string ((⟨#[9, 10, 13, 32]⟩ : ByteArray).extract 2 4), .int .u8 (z.toNat : Int)] X fun e X' => e = .returned (.int .i64 (-1)) ∧ X' = X))
  go_enter Tryd.func46, Tryd.ntmps46
  go_wp2_with (first | (go_at_call 64; refine (HV.out _).mono ?_; rintro e w1 ⟨rfl, rfl⟩))
  go_step3
  go_wp2
  refine wp_loop_rounds 1 ?_
  rw [rounds_succ]
  go_wp2
  go_step3
  go_wp2
  go_quiet (fail)
  go_wp2
  go_quiet (first | (go_at_call 45; refine (HI.out ((⟨#[x, y]⟩ : ByteArray)[1]'(show 1 < 2 by decide)) rfl _).mono ?_; rintro e w'' ⟨rfl, rfl⟩; exact ⟨rfl, _, rfl⟩))
  go_wp2
  rw [Exit.noGoto_ret]
  go_wp2
  rw [Exit.noGoto_ret]
  go_ret
  exact ⟨rfl, (Ext.refl _).drewN _⟩
theorem blk_mem (c : UInt8) : blk c = decide (0 ≤ Lib.indexByte [9, 10, 13, 32] c) := by
  rw [Bool.eq_iff_iff, decide_eq_true_eq, index_mem]
  simp [blk]
set_option maxRecDepth 100000 in
theorem crune_any (c : UInt8) (w : World) : Calls Tryd.prog 27 #[.string ⟨#[9, 10, 13, 32]⟩, .int .i32 (c.toNat : Int)] w (BoolPost (blk c) w) := by
  by_cases h : c.toNat < 128
  · refine (Tryd.strings_ContainsRune_ascii _ _ w (by omega) (by omega)).mono ?_
    rintro e w' ⟨rfl, rfl⟩
    refine ⟨?_, Ext.refl _⟩
    rw [blk_mem]
    simp
  · have hb : blk c = false := by
      rw [Bool.eq_false_iff]; intro hb
      simp [blk] at hb
      rcases hb with rfl | rfl | rfl | rfl <;> exact h (by decide)
    rw [hb]
    have HI := Lib.hid (fun X => idxr_high c.toNat X (by omega) (by have := c.toNat_lt; omega))
    clear hb h
    go_enter Tryd.func27, Tryd.ntmps27
    go_wp2_with (first | (go_at_call 46; refine (HI.out _).mono ?_; rintro e w1 ⟨rfl, hx⟩))
    go_ret
    exact ⟨rfl, hx⟩
end Go.Proofs.YtbmcplnfamgpcaaDoor
