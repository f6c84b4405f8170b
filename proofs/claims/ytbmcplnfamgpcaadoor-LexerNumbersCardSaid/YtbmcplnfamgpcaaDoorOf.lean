/- The contract of date.Of. -/
import Derived.Test.YtbmcplnfamgpcaaDoorCal
namespace Go.Proofs.YtbmcplnfamgpcaaDoor
open Go Go.RowKit

def OfPost (d : Nat) (w : World) (e : Ending) (w' : World) : Prop :=
  e = .returned (.tuple #[.agg #[.int .i64 ((ofD d).1 : Nat), .int .i64 ((ofD d).2.1 : Nat), .int .i64 ((ofD d).2.2 : Nat)], .int .i64 0]) ∧ Ext w w'
theorem ofD_parts (d era doe yoe doy m : Nat) (h1 : era = (d + 306) / 146097) (h2 : doe = (d + 306) % 146097) (h3 : yoe = eN doe / 365) (h4 : doy = doe - eS yoe) (h5 : m = (5 * doy + 2) / 153) :
    ofD d = if m ≥ 10 then (yoe + 400 * era + 1, m - 9, doy - (153 * m + 2) / 5 + 1) else (yoe + 400 * era, m + 3, doy - (153 * m + 2) / 5 + 1) := by
  rw [h5, h4, h3, h2, h1]; rfl
set_option maxHeartbeats 4000000 in
set_option maxRecDepth 100000 in
theorem of_any (d : Nat) (w : World) (hd : d ≤ 3652058) : Calls Tryd.prog 40 #[.int .i64 d] w (OfPost d w) := by
  obtain ⟨era, he⟩ : ∃ e, e = (d + 306) / 146097 := ⟨_, rfl⟩
  obtain ⟨doe, hdoe⟩ : ∃ e, e = (d + 306) % 146097 := ⟨_, rfl⟩
  obtain ⟨yoe, hyoe⟩ : ∃ y, y = eN doe / 365 := ⟨_, rfl⟩
  obtain ⟨doy, hdoy⟩ : ∃ y, y = doe - eS yoe := ⟨_, rfl⟩
  obtain ⟨m, hm⟩ : ∃ y, y = (5 * doy + 2) / 153 := ⟨_, rfl⟩
  have hof := ofD_parts d era doe yoe doy m he hdoe hyoe hdoy hm
  have hdl : doe ≤ 146096 := by omega
  obtain ⟨y1, y2, y3⟩ := yoe_ok hdl
  rw [← hyoe] at y1 y2 y3
  have hHi : eHi yoe ≤ eS yoe + 365 := by
    unfold eHi
    split
    · rename_i h; rw [h]; decide
    · unfold eS; omega
  have hera : era ≤ 25 := by omega
  have hdy : doy ≤ 365 := by omega
  have hm11 : m ≤ 11 := by omega
  have hd1 : (153 * m + 2) / 5 ≤ doy := by omega
  have g0 : ¬ (d : Int) < 0 := by omega
  have g1 : ¬ (3652058 : Int) < (d : Int) := by omega
  have e1 : ((d : Int) + 306) / 146097 = (era : Int) := by omega
  have e2 : ((d : Int) + 306) % 146097 = (doe : Int) := by omega
  have e3 : ((doe : Int) - (doe : Int) / 1460 + (doe : Int) / 36524 - (doe : Int) / 146096) / 365 = (yoe : Int) := by rw [hyoe]; unfold eN; omega
  have e4 : (doe : Int) - (365 * (yoe : Int) + (yoe : Int) / 4 - (yoe : Int) / 100) = (doy : Int) := by rw [hdoy]; unfold eS at y2 ⊢; omega
  have e5 : (5 * (doy : Int) + 2) / 153 = (m : Int) := by omega
  have E1 := Lib.hid e1
  have E2 := Lib.hid e2
  have E3 := Lib.hid e3
  have E4 := Lib.hid e4
  have E5 := Lib.hid e5
  have HOF := Lib.hid hof
  have HD1 := Lib.hid hd1
  clear e1 e2 e3 e4 e5 hof hm hdoy hyoe hdoe he y2 y3 hHi hd1
  go_enter Tryd.func40, Tryd.ntmps40
  go_upto_region 6 with (fail)
  rw [E1.out, E2.out]
  go_upto_region 7 with (fail)
  rw [E3.out]
  go_upto_region 8 with (fail)
  rw [E4.out]
  go_upto_region 9 with (fail)
  rw [E5.out]
  by_cases h10 : 10 ≤ m
  · have h10I : (10 : Int) ≤ (m : Int) := by omega
    have HF := Lib.hid (show ofD d = (yoe + 400 * era + 1, m - 9, doy - (153 * m + 2) / 5 + 1) by rw [HOF.out, if_pos h10])
    have HF1 := Lib.hid (show (yoe : Int) + 400 * (era : Int) + 1 = ((yoe + 400 * era + 1 : Nat) : Int) by omega)
    have HF2 := Lib.hid (show (m : Int) - 9 = ((m - 9 : Nat) : Int) by omega)
    have HF3 := Lib.hid (show (doy : Int) - (153 * (m : Int) + 2) / 5 + 1 = ((doy - (153 * m + 2) / 5 + 1 : Nat) : Int) by have := HD1.out; omega)
    clear h10
    go_wp2
    refine bodyPost_ret (v := .tuple #[.agg #[.int .i64 ((yoe : Int) + 400 * (era : Int) + 1), .int .i64 ((m : Int) - 9), .int .i64 ((doy : Int) - (153 * (m : Int) + 2) / 5 + 1)], .int .i64 0]) (by simp [results, Tryd.results40, go_sem, *]) rfl ?_
    refine ⟨by rw [HF.out, HF1.out, HF2.out, HF3.out], ?_⟩
    repeat (first | exact Ext.refl _ | apply Ext.alloc)
  · have h10I : ¬ (10 : Int) ≤ (m : Int) := by omega
    have HF := Lib.hid (show ofD d = (yoe + 400 * era, m + 3, doy - (153 * m + 2) / 5 + 1) by rw [HOF.out, if_neg h10])
    have HF1 := Lib.hid (show (yoe : Int) + 400 * (era : Int) = ((yoe + 400 * era : Nat) : Int) by omega)
    have HF2 := Lib.hid (show (m : Int) + 3 = ((m + 3 : Nat) : Int) by omega)
    have HF3 := Lib.hid (show (doy : Int) - (153 * (m : Int) + 2) / 5 + 1 = ((doy - (153 * m + 2) / 5 + 1 : Nat) : Int) by have := HD1.out; omega)
    clear h10
    go_wp2
    refine bodyPost_ret (v := .tuple #[.agg #[.int .i64 ((yoe : Int) + 400 * (era : Int)), .int .i64 ((m : Int) + 3), .int .i64 ((doy : Int) - (153 * (m : Int) + 2) / 5 + 1)], .int .i64 0]) (by simp [results, Tryd.results40, go_sem, *]) rfl ?_
    refine ⟨by rw [HF.out, HF1.out, HF2.out, HF3.out], ?_⟩
    repeat (first | exact Ext.refl _ | apply Ext.alloc)
end Go.Proofs.YtbmcplnfamgpcaaDoor
