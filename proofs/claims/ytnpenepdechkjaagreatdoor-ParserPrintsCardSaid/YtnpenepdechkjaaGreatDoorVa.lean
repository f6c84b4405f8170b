/- The reference's Of. -/
import Derived.Test.YtnpenepdechkjaaGreatDoorMh
import Derived.Test.YtnpenepdechkjaaGreatDoorQk
import Derived.Test.YtnpenepdechkjaaGreatDoorMg
namespace Go.Proofs.YtnpenepdechkjaaGreatDoor
open Go Go.RowKit

/-- A date in a block of its own, whole. -/
def DX (W : World) (g : Nat) (y m d : Int) : Prop := W.heap[g]? = some (.cells #[.int .i64 y, .int .i64 m, .int .i64 d] 110 (0, 0))
theorem DX.cs {W : World} {g : Nat} {y m d : Int} (h : DX W g y m d) : g < W.heap.size ∧ W.cell? ⟨g, 0, none⟩ = some (.int .i64 y) ∧ W.cell? ⟨g, 1, none⟩ = some (.int .i64 m) ∧ W.cell? ⟨g, 2, none⟩ = some (.int .i64 d) ∧ W.frozen? ⟨g, 0, none⟩ = false ∧ W.frozen? ⟨g, 1, none⟩ = false ∧ W.frozen? ⟨g, 2, none⟩ = false :=
 ⟨lt_of_block h, by rw [cell_of_row W _ _ _ 110 (0, 0) h]; rfl, by rw [cell_of_row W _ _ _ 110 (0, 0) h]; rfl, by rw [cell_of_row W _ _ _ 110 (0, 0) h]; rfl, frozen_of_row W _ _ _ 110 h, frozen_of_row W _ _ _ 110 h, frozen_of_row W _ _ _ 110 h⟩
theorem DX.ext {W W' : World} {g : Nat} {y m d : Int} (h : DX W g y m d) (hx : Ext W W') : DX W' g y m d := (hx.block g (lt_of_block h)).trans h
theorem DX.other {W : World} {g : Nat} {y m d : Int} (h : DX W g y m d) {p : Addr} (hp : g ≠ p.block) (u : Value) : DX (W.setCell p u) g y m d := (heap_setCell_other W p g u hp).trans h
theorem DX.s0 {W : World} {g : Nat} {y m d : Int} (h : DX W g y m d) (z : Int) : DX (W.setCell ⟨g, 0, none⟩ (.int .i64 z)) g z m d := (heap_setCell_same W g 0 _ 110 _ h).trans rfl
theorem DX.s1 {W : World} {g : Nat} {y m d : Int} (h : DX W g y m d) (z : Int) : DX (W.setCell ⟨g, 1, none⟩ (.int .i64 z)) g y z d := (heap_setCell_same W g 1 _ 110 _ h).trans rfl
theorem DX.s2 {W : World} {g : Nat} {y m d : Int} (h : DX W g y m d) (z : Int) : DX (W.setCell ⟨g, 2, none⟩ (.int .i64 z)) g y m z := (heap_setCell_same W g 2 _ 110 _ h).trans rfl
/-! ### Plain law -/
theorem year_len (k : Nat) : mS (k + 1) = mS k + (if leap (k + 1) then 366 else 365) := by
 have hn := mS_next k
 have hl := leap_iff (k + 1)
 generalize mS (k + 1) = a at *
 generalize mS k = b at *
 cases hb : leap (k + 1) with
 | true =>
  obtain ⟨b1, b2⟩ := hl.1 hb
  rw [if_pos b1] at hn
  rw [if_pos rfl]
  by_cases b3 : (k + 1) % 100 = 0
  ·have b4 : (k + 1) % 400 = 0 := by rcases b2 with h | h; exact absurd b3 h; exact h
   rw [if_pos b3, if_pos b4] at hn; omega
  ·have b4 : ¬ (k + 1) % 400 = 0 := by omega
   rw [if_neg b3, if_neg b4] at hn; omega
 | false =>
  have hf : ¬ ((k + 1) % 4 = 0 ∧ ((k + 1) % 100 ≠ 0 ∨ (k + 1) % 400 = 0)) := fun e => by rw [hl.2 e] at hb; cases hb
  rw [if_neg (by decide)]
  by_cases b1 : (k + 1) % 4 = 0
  ·have b3 : (k + 1) % 100 = 0 := by
    by_cases h : (k + 1) % 100 = 0
    ·exact h
    ·exact absurd ⟨b1, .inl h⟩ hf
   have b4 : ¬ (k + 1) % 400 = 0 := fun h => hf ⟨b1, .inr h⟩
   rw [if_pos b1, if_pos b3, if_neg b4] at hn; omega
  ·have b3 : ¬ (k + 1) % 100 = 0 := by omega
   have b4 : ¬ (k + 1) % 400 = 0 := by omega
   rw [if_neg b1, if_neg b3, if_neg b4] at hn; omega
theorem mdays13 (y : Nat) : mdays y 12 + mlen y 12 = if leap y then 366 else 365 := by
 cases hl : leap y <;> simp [mdays, mlen, hl]
theorem mdays_step (y : Nat) {m : Nat} (h1 : 1 ≤ m) : mdays y (m + 1) = mdays y m + mlen y m := by
 obtain ⟨k, rfl⟩ : ∃ k, m = k + 1 := ⟨m - 1, by omega⟩
 rfl
theorem dayNo_mS {k m d : Nat} (hd : 1 ≤ d) : dayNo (k + 1) m d = mS k + mdays (k + 1) m + (d - 1) := by
 unfold dayNo mS
 rw [show k + 1 - 1 = k by omega]
 omega
/-- The year, the month, the rest: they are the date of the day. -/
theorem of_parts {n k m r : Nat} (hm1 : 1 ≤ m) (hm : m ≤ 12) (hk : k + 1 ≤ 9999) (hr : r < mlen (k + 1) m) (h : mS k + mdays (k + 1) m + r = n) (hn : n ≤ 3652058) : ofD n = (k + 1, m, r + 1) := by
 have hb : dateB (k + 1) m (r + 1) = true := by
  simp only [dateB, Bool.and_eq_true, decide_eq_true_eq]
  exact ⟨by omega, hk, hm1, hm, by omega, by omega⟩
 have hno : dayNo (k + 1) m (r + 1) = n := by rw [dayNo_mS (by omega)]; omega
 obtain ⟨g1, g2⟩ := ofD_ok hn
 obtain ⟨e1, e2, e3⟩ := day_inj g1 hb (g2.trans hno.symm)
 have e : ofD n = ((ofD n).1, (ofD n).2.1, (ofD n).2.2) := rfl
 rw [e, e1, e2, e3]
theorem mS_9999 : mS 9999 = 3652059 := by decide
theorem year_start (n : Nat) : mS (n / 366) ≤ n := by
 have h : ∀ k, mS k ≤ 366 * k := fun k => by
  have h1 : k / 400 ≤ k / 4 := Nat.div_le_div_left (by decide) (by decide)
  have h2 : 4 * (k / 4) ≤ k := Nat.mul_div_le _ _
  unfold mS; omega
 have := h (n / 366)
 have := Nat.mul_div_le n 366
 omega
def yM (g : Nat) (X : World) : Nat := match X.cell? ⟨g, 0, none⟩ with | some v => toM 10000 v | none => 0
def mM (g : Nat) (X : World) : Nat := match X.cell? ⟨g, 1, none⟩ with | some v => toM 13 v | none => 0
def RoRel (w : World) (n g2 g4 : Nat) (s3 : Value) (X : World) : Prop := ∃ k : Nat, s3 = .int .i64 0 ∧ mS k ≤ n ∧ k + 1 ≤ 9999 ∧ DX X g4 ((k : Int) + 1) 1 0 ∧ DX X g2 0 0 0 ∧ Ext w X
def RoRel2 (w : World) (n k g2 g4 : Nat) (s5 : Value) (X : World) : Prop := ∃ m r : Nat, s5 = .int .i64 r ∧ 1 ≤ m ∧ m ≤ 12 ∧ mS k + mdays (k + 1) m + r = n ∧ DX X g4 ((k : Int) + 1) m 0 ∧ DX X g2 0 0 0 ∧ Ext w X
set_option maxHeartbeats 2000000 in
set_option maxRecDepth 100000 in
theorem rof_any (n : Nat) (w : World) (hn : n ≤ 3652058) : Calls Tryz.prog 104 #[.int .i64 n] w (OfPost n w) := by
 have g0 : ¬ (n : Int) < 0 := by omega
 have g1 : ¬ (3652058 : Int) < (n : Int) := by omega
 have e1 : (n : Int) / 366 = ((n / 366 : Nat) : Int) := by omega
 have E1 := Lib.hid e1
 obtain ⟨k0, hk0⟩ : ∃ k, k = n / 366 := ⟨_, rfl⟩
 have HK0 := Lib.hid (show mS k0 ≤ n ∧ k0 + 1 ≤ 9999 from ⟨by rw [hk0]; exact year_start n, by omega⟩)
 have hkI : (k0 : Int) ≤ 9998 := by omega
 clear e1
 go_enter Tryz.func104, Tryz.ntmps104
 go_upto_region 3 with (fail)
 rw [← hk0] at E1
 have e1 := E1.out
 clear hk0
 have HST := Lib.hid (show RoRel w n w.heap.size (w.heap.size + 1) (.int .i64 0) ((w.alloc (.cells #[.int .i64 0, .int .i64 0, .int .i64 0] 110)).alloc (.cells #[.int .i64 ((k0 : Int) + 1), .int .i64 1, .int .i64 0] 110)) from by
  refine ⟨k0, rfl, HK0.out.1, HK0.out.2, ?_, ?_, ((Ext.refl _).alloc _).alloc _⟩
  ·have := heap_alloc_new (w.alloc (.cells #[.int .i64 0, .int .i64 0, .int .i64 0] 110)) (.cells #[.int .i64 ((k0 : Int) + 1), .int .i64 1, .int .i64 0] 110)
   simpa [DX] using this
  ·exact DX.ext (heap_alloc_new w _) ((Ext.refl _).alloc _))
 have hg24 : w.heap.size < w.heap.size + 1 := by omega
 go_wp2_with fail
 clear e1
 generalize (w.alloc (.cells #[.int .i64 0, .int .i64 0, .int .i64 0] 110)).alloc (.cells #[.int .i64 ((k0 : Int) + 1), .int .i64 1, .int .i64 0] 110) = w0 at *
 have hw4 : w.heap.size ≤ w.heap.size + 1 := by omega
 generalize hq4 : w.heap.size + 1 = g4 at hg24 HST hw4 ⊢
 clear hq4
 have hw2 : w.heap.size ≤ w.heap.size := Nat.le_refl _
 generalize hq2 : w.heap.size = g2 at hg24 HST ⊢
 have hw2 : w.heap.size ≤ g2 := by omega
 clear hq2
 go_loopw [] (fun X => RoRel w n g2 g4 (.int .i64 0) X) (fun X => yM g4 X)
 case atStart => exact HST.out
 case round =>
  clear HST HK0 hkI E1
  obtain ⟨k, _, hk1, hk2, hd4, hd2, hx⟩ := hrel
  have HK1 := Lib.hid hk1
  have HD4 := Lib.hid hd4
  have HD2 := Lib.hid hd2
  have HX := Lib.hid hx
  obtain ⟨l4, c0, c1, c2, f0, f1, f2⟩ := hd4.cs
  have hkI : (k : Int) + 1 ≤ 9999 := by omega
  have HS := Lib.hid (fun X => (show Calls Tryz.prog 141 #[.int .i64 ((k : Int) + 1 + 1)] X (fun e X' => e = .returned (.int .i64 (mS (k + 1) : Nat)) ∧ X' = X) from by
   have h9 := rstart_any (k + 2) X (by omega) (by omega)
   rw [show ((k + 2 : Nat) : Int) = (k : Int) + 1 + 1 by omega] at h9
   refine h9.mono ?_
   rintro e X' ⟨he, hx⟩
   exact ⟨by rw [he]; rfl, hx⟩))
  have HS0 := Lib.hid (fun X => (show Calls Tryz.prog 141 #[.int .i64 ((k : Int) + 1)] X (fun e X' => e = .returned (.int .i64 (mS k : Nat)) ∧ X' = X) from by
   have h9 := rstart_any (k + 1) X (by omega) (by omega)
   rw [show ((k + 1 : Nat) : Int) = (k : Int) + 1 by omega] at h9
   refine h9.mono ?_
   rintro e X' ⟨he, hx⟩
   exact ⟨by rw [he]; rfl, hx⟩))
  have hle : mS k ≤ mS (k + 1) := mS_mono (by omega)
  have hy0 : yM g4 wr = 10000 - (k + 1) := by
   unfold yM
   rw [c0]
   simp only [toM]; omega
  have HY0 := Lib.hid hy0
  clear hd4 hd2 hx hy0
  by_cases hc : mS (k + 1) ≤ n
  ·have hcI : ((mS (k + 1) : Nat) : Int) ≤ (n : Int) := by omega
   have hk3 : k + 2 ≤ 9999 := by
    have h9 : mS (k + 1) < mS 9999 := by rw [mS_9999]; omega
    rcases Nat.lt_or_ge (k + 1) 9999 with h | h
    ·omega
    ·have := mS_mono h; omega
   have HC := Lib.hid hc
   clear hc hk1 hk2
   obtain ⟨M, hM⟩ : ∃ M, M = mS (k + 1) := ⟨_, rfl⟩
   rw [← hM] at HS hcI hle
   clear hM
   go_wp2_with (first | (go_at_call 141; refine (HS.out _).mono ?_; rintro e w5 ⟨rfl, rfl⟩))
   refine ⟨⟨k + 1, rfl, HC.out, by omega, ?_, HD2.out.other (by simp only; omega) _, HX.out.setCell (p := ⟨g4, 0, none⟩) (by simp only; omega) _⟩, ?_⟩
   ·have := HD4.out.s0 ((k : Int) + 1 + 1)
    rw [show (((k + 1 : Nat)) : Int) + 1 = (k : Int) + 1 + 1 by omega]
    exact this
   ·have h8 := (HD4.out.s0 ((k : Int) + 1 + 1)).cs.2.1
    rw [HY0.out]
    unfold yM
    rw [h8]
    simp only [toM]; omega
  ·have hcI : ¬ ((mS (k + 1) : Nat) : Int) ≤ (n : Int) := by omega
   have HNC := Lib.hid hc
   have hm9 : mS (k + 1) ≤ 100000000 := by
    have := mS_mono (show k + 1 ≤ 9999 by omega)
    rw [mS_9999] at this; omega
   have hMk : mS k ≤ n := hk1
   obtain ⟨M, hM⟩ : ∃ M, M = mS (k + 1) := ⟨_, rfl⟩
   obtain ⟨M0, hM0⟩ : ∃ M, M = mS k := ⟨_, rfl⟩
   have HM := Lib.hid hM
   have HM0 := Lib.hid hM0
   rw [← hM] at HS hcI hle hm9
   rw [← hM0] at HS0 hMk hle
   have hd0 : (n : Int) - (M0 : Int) = ((n - M0 : Nat) : Int) := by omega
   have HDD := Lib.hid hd0
   clear hM hM0 hc hk1 hd0
   go_upto_region 6 with (first | (go_at_call 141; refine (HS.out _).mono ?_; rintro e w5 ⟨rfl, rfl⟩))
   go_upto_region 7 with (first | (go_at_call 141; refine (HS0.out _).mono ?_; rintro e w5 ⟨rfl, rfl⟩))
   have HN1 := Lib.hid (show n < mS (k + 1) by have := HNC.out; omega)
   have HST2 := Lib.hid (show RoRel2 w n k g2 g4 (.int .i64 ((n : Int) - (M0 : Int))) w5 from ⟨1, n - M0, by rw [HDD.out], by omega, by omega, by rw [← HM0.out, show mdays (k + 1) 1 = 0 from rfl]; omega, HD4.out, HD2.out, HX.out⟩)
   clear HS HS0 HNC HM HM0 HDD hcI hle hm9 hMk c0 c1 c2 f0 f1 f2 HY0 HD4 HD2 HX
   go_wp2_with fail
   go_loopw [5] (fun s5 X => RoRel2 w n k g2 g4 s5 X) (fun _ X => mM g4 X)
   case atStart => exact HST2.out
   case round =>
    clear HST2
    obtain ⟨m, r, rfl, hm1, hm12, hnr, hd4, hd2, hx⟩ := hrel
    have HNR := Lib.hid hnr
    have HD4 := Lib.hid hd4
    have HD2 := Lib.hid hd2
    have HX := Lib.hid hx
    obtain ⟨l4', c0, c1, c2, f0, f1, f2⟩ := hd4.cs
    obtain ⟨l2', z0, z1, z2, y0, y1, y2⟩ := hd2.cs
    have hmI : (m : Int) ≤ 12 := by omega
    have hL31 := mlen_le (k + 1) m
    have HL := Lib.hid (fun X => (show Calls Tryz.prog 142 #[.int .i64 ((k : Int) + 1), .int .i64 (m : Int)] X (fun e X' => e = .returned (.int .i64 (mlen (k + 1) m : Nat)) ∧ X' = X) from by
     have h9 := rlength_any (k + 1) m X (by omega) hm1 hm12
     rw [show ((k + 1 : Nat) : Int) = (k : Int) + 1 by omega] at h9
     exact h9))
    have hrn : (r : Int) ≤ 3652058 := by omega
    have hm0 : mM g4 wr = 13 - m := by
     unfold mM
     rw [c1]
     simp only [toM]; omega
    have HM0 := Lib.hid hm0
    clear hd4 hd2 hx hnr hm0
    by_cases hc : mlen (k + 1) m ≤ r
    ·have hm11 : m ≤ 11 := by
      rcases Nat.lt_or_ge m 12 with h | h
      ·omega
      ·exfalso
       obtain rfl : m = 12 := by omega
       have h1 := mdays13 (k + 1)
       have h2 := year_len k
       have h3 := HNR.out
       have h4 := HN1.out
       omega
     have HNX := Lib.hid (show mS k + mdays (k + 1) (m + 1) + (r - mlen (k + 1) m) = n by rw [mdays_step (k + 1) hm1]; have := HNR.out; omega)
     obtain ⟨L, hL⟩ : ∃ L, L = mlen (k + 1) m := ⟨_, rfl⟩
     rw [← hL] at HL HNX hc hL31
     have hcI : (L : Int) ≤ (r : Int) := by omega
     clear hL
     go_wp2_with (first | (go_at_call 142; refine (HL.out _).mono ?_; rintro e w5 ⟨rfl, rfl⟩))
     refine ⟨⟨m + 1, r - L, ?_, by omega, by omega, HNX.out, ?_, HD2.out.other (by simp only; omega) _, HX.out.setCell (p := ⟨g4, 1, none⟩) (by simp only; omega) _⟩, ?_⟩
     ·rw [show ((r - L : Nat) : Int) = (r : Int) - (L : Int) by omega]
     ·have := HD4.out.s1 ((m : Int) + 1)
      rw [show (((m + 1 : Nat)) : Int) = (m : Int) + 1 by omega]
      exact this
     ·have h8 := (HD4.out.s1 ((m : Int) + 1)).cs.2.2.1
      rw [HM0.out]
      unfold mM
      rw [h8]
      simp only [toM]; omega
    ·have HOF := Lib.hid (of_parts hm1 hm12 (by omega) (Nat.lt_of_not_le hc) HNR.out hn)
     obtain ⟨L, hL⟩ : ∃ L, L = mlen (k + 1) m := ⟨_, rfl⟩
     rw [← hL] at HL hc hL31
     have hcI : ¬ (L : Int) ≤ (r : Int) := by omega
     clear hL
     have hd9 := HD4.out.s2 ((r : Int) + 1)
     go_upto_region 11 with (first | (go_at_call 142; refine (HL.out _).mono ?_; rintro e w5 ⟨rfl, rfl⟩))
     have hz9 := HD2.out.other (p := ⟨g4, 2, none⟩) (by simp only; omega) (.int .i64 ((r : Int) + 1))
     have hx9 := HX.out.setCell (p := ⟨g4, 2, none⟩) (by simp only; omega) (.int .i64 ((r : Int) + 1))
     generalize w5.setCell ⟨g4, 2, none⟩ (.int .i64 ((r : Int) + 1)) = w9 at *
     clear c0 c1 c2 f0 f1 f2 z0 z1 z2 y0 y1 y2
     obtain ⟨l4'', c0, c1, c2, f0, f1, f2⟩ := hd9.cs
     obtain ⟨l2'', z0, z1, z2, y0, y1, y2⟩ := hz9.cs
     have HX9 := Lib.hid hx9
     clear hd9 hz9 hx9
     go_wp2
     refine bodyPost_ret (v := .tuple #[.agg #[.int .i64 ((k : Int) + 1), .int .i64 m, .int .i64 ((r : Int) + 1)], .int .i64 0]) (by simp [results, Tryz.results104, go_sem, *]) rfl ?_
     refine ⟨?_, ((HX9.out.setCell (p := ⟨g2, 0, none⟩) hw2 _).setCell (p := ⟨g2, 1, none⟩) hw2 _).setCell (p := ⟨g2, 2, none⟩) hw2 _⟩
     rw [HOF.out]
     show _ = Ending.returned (.tuple #[.agg #[.int .i64 ((k + 1 : Nat) : Int), .int .i64 (m : Int), .int .i64 ((r + 1 : Nat) : Int)], .int .i64 0])
     rw [show ((k + 1 : Nat) : Int) = (k : Int) + 1 by omega, show ((r + 1 : Nat) : Int) = (r : Int) + 1 by omega]
end Go.Proofs.YtnpenepdechkjaaGreatDoor
