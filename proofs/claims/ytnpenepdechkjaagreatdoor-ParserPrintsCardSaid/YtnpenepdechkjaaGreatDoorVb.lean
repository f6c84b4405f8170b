/- The references' Decimal, padded and Print. -/
import Derived.Test.YtnpenepdechkjaaGreatDoorVa
import Derived.Lib.ItoaNum
namespace Go.Proofs.YtnpenepdechkjaaGreatDoor
open Go Go.RowKit

def DecRel (n : Nat) (s k : Value) : Prop := ∃ (u : Nat) (t : ByteArray), u ≤ n ∧ k = .int .i64 u ∧ s = .string t ∧ t.size ≤ n - u ∧ (if u = 0 then t.data.toList = Lib.decDigits n else Lib.decDigits u ++ t.data.toList = Lib.decDigits n)
def decM (k : Value) : Nat := match k with | .int _ z => z.toNat | _ => 0
theorem dig_list {d : Nat} (h : d < 10) : ((⟨#[48, 49, 50, 51, 52, 53, 54, 55, 56, 57]⟩ : ByteArray).extract d (d + 1)).data.toList = [UInt8.ofNat (48 + d)] := by
 rcases (by omega : d = 0 ∨ d = 1 ∨ d = 2 ∨ d = 3 ∨ d = 4 ∨ d = 5 ∨ d = 6 ∨ d = 7 ∨ d = 8 ∨ d = 9) with rfl | rfl | rfl | rfl | rfl | rfl | rfl | rfl | rfl | rfl <;> decide
theorem dec_done {n : Nat} {t : ByteArray} (h : if (0 : Nat) = 0 then t.data.toList = Lib.decDigits n else Lib.decDigits 0 ++ t.data.toList = Lib.decDigits n) : t = ⟨(Lib.decDigits n).toArray⟩ := by
 rw [if_pos rfl] at h
 rw [← h]
theorem dec_step {n u : Nat} {t : ByteArray} (hu : ¬ u = 0) (h : if u = 0 then t.data.toList = Lib.decDigits n else Lib.decDigits u ++ t.data.toList = Lib.decDigits n) :
  if u / 10 = 0 then ((⟨#[48, 49, 50, 51, 52, 53, 54, 55, 56, 57]⟩ : ByteArray).extract (u % 10) (u % 10 + 1) ++ t).data.toList = Lib.decDigits n else Lib.decDigits (u / 10) ++ ((⟨#[48, 49, 50, 51, 52, 53, 54, 55, 56, 57]⟩ : ByteArray).extract (u % 10) (u % 10 + 1) ++ t).data.toList = Lib.decDigits n := by
 rw [if_neg hu] at h
 have hd := dig_list (Nat.mod_lt u (show 10 > 0 by omega))
 have ha : ((⟨#[48, 49, 50, 51, 52, 53, 54, 55, 56, 57]⟩ : ByteArray).extract (u % 10) (u % 10 + 1) ++ t).data.toList = [UInt8.ofNat (48 + u % 10)] ++ t.data.toList := by
  rw [ByteArray.data_append, Array.toList_append, hd]
 rw [ha, ← h]
 by_cases hq : u < 10
 ·rw [if_pos (by omega), Lib.decDigits_one hq, show u % 10 = u by omega]
 ·rw [if_neg (by omega)]
  conv => rhs; rw [Lib.decDigits, dif_neg hq]
  simp
theorem dec_size {n u : Nat} {t : ByteArray} (hu : ¬ u = 0) (hn : u ≤ n) (h : t.size ≤ n - u) : ((⟨#[48, 49, 50, 51, 52, 53, 54, 55, 56, 57]⟩ : ByteArray).extract (u % 10) (u % 10 + 1) ++ t).size ≤ n - u / 10 := by
 rw [ByteArray.size_append, ByteArray.size_extract]
 have : u / 10 < u := Nat.div_lt_self (by omega) (by omega)
 omega

set_option maxRecDepth 100000 in
theorem dec59_any (n : Nat) (w : World) (hn : n ≤ 2147483647) : Calls Tryz.prog 59 #[.int .i64 n] w fun e w' => e = .returned (.string ⟨(Lib.decDigits n).toArray⟩) ∧ w = w' := by
 by_cases h0 : n = 0
 ·subst h0
  have hd : (⟨#[48]⟩ : ByteArray) = ⟨(Lib.decDigits 0).toArray⟩ := by rw [Lib.decDigits_one (by omega)]; rfl
  have HD := Lib.hid hd; clear hd
  go_enter Tryz.func59, Tryz.ntmps59
  go_wp2
  go_ret
  exact ⟨congrArg (fun z => Ending.returned (.string z)) HD.out, rfl⟩
 ·have hne : ((n : Int) == 0) = false := by rw [beq_eq_false_iff_ne]; omega
  go_enter Tryz.func59, Tryz.ntmps59
  go_wp2
  go_loop [4, 5] (fun s k => DecRel n s k) (fun _ k => decM k)
  case atStart => exact ⟨n, ByteArray.empty, Nat.le_refl _, rfl, rfl, by simp, by rw [if_neg h0]; simp⟩
  case round =>
   obtain ⟨u, t, hu, rfl, rfl, hts, ht⟩ := hrel
   have HT := Lib.hid ht; clear ht
   by_cases hu0 : u = 0
   ·subst hu0
    have hz : ((((0 : Nat) : Int)) != 0) = false := by decide
    have hnn : ¬ (n : Int) < 0 := by omega
    go_wp2
    go_ret
    exact ⟨congrArg (fun z => Ending.returned (.string z)) (dec_done HT.out), rfl⟩
   ·have hz : ((u : Int) != 0) = true := by rw [bne_iff_ne]; omega
    have hm := Int.emod_nonneg (u : Int) (show (10 : Int) ≠ 0 by omega)
    have hm2 := Int.emod_lt_of_pos (u : Int) (show (0 : Int) < 10 by omega)
    have hm3 : min (u % 10 + 1) 10 - u % 10 + t.size ≤ 9223372036854775807 := by omega
    have hlt : u / 10 < u := Nat.div_lt_self (by omega) (by omega)
    have hst := dec_step (n := n) hu0 HT.out
    have HST := Lib.hid hst; clear hst
    go_wp2
    exact ⟨⟨u / 10, _, by omega, by simp, rfl, dec_size hu0 hu hts, HST.out⟩, by simp [decM]; omega⟩

set_option maxRecDepth 100000 in
theorem dec143_any (n : Nat) (w : World) (hn : n ≤ 2147483647) : Calls Tryz.prog 143 #[.int .i64 n] w fun e w' => e = .returned (.string ⟨(Lib.decDigits n).toArray⟩) ∧ w = w' := by
 by_cases h0 : n = 0
 ·subst h0
  have hd : (⟨#[48]⟩ : ByteArray) = ⟨(Lib.decDigits 0).toArray⟩ := by rw [Lib.decDigits_one (by omega)]; rfl
  have HD := Lib.hid hd; clear hd
  go_enter Tryz.func143, Tryz.ntmps143
  go_wp2
  go_ret
  exact ⟨congrArg (fun z => Ending.returned (.string z)) HD.out, rfl⟩
 ·have hne : ((n : Int) == 0) = false := by rw [beq_eq_false_iff_ne]; omega
  go_enter Tryz.func143, Tryz.ntmps143
  go_wp2
  go_loop [4, 5] (fun s k => DecRel n s k) (fun _ k => decM k)
  case atStart => exact ⟨n, ByteArray.empty, Nat.le_refl _, rfl, rfl, by simp, by rw [if_neg h0]; simp⟩
  case round =>
   obtain ⟨u, t, hu, rfl, rfl, hts, ht⟩ := hrel
   have HT := Lib.hid ht; clear ht
   by_cases hu0 : u = 0
   ·subst hu0
    have hz : ((((0 : Nat) : Int)) != 0) = false := by decide
    have hnn : ¬ (n : Int) < 0 := by omega
    go_wp2
    go_ret
    exact ⟨congrArg (fun z => Ending.returned (.string z)) (dec_done HT.out), rfl⟩
   ·have hz : ((u : Int) != 0) = true := by rw [bne_iff_ne]; omega
    have hm := Int.emod_nonneg (u : Int) (show (10 : Int) ≠ 0 by omega)
    have hm2 := Int.emod_lt_of_pos (u : Int) (show (0 : Int) < 10 by omega)
    have hm3 : min (u % 10 + 1) 10 - u % 10 + t.size ≤ 9223372036854775807 := by omega
    have hlt : u / 10 < u := Nat.div_lt_self (by omega) (by omega)
    have hst := dec_step (n := n) hu0 HT.out
    have HST := Lib.hid hst; clear hst
    go_wp2
    exact ⟨⟨u / 10, _, by omega, by simp, rfl, dec_size hu0 hu hts, HST.out⟩, by simp [decM]; omega⟩

def PdRel (n k : Nat) (s5 : Value) : Prop := ∃ j : Nat, j + (Lib.decDigits n).length ≤ k ∧ s5 = .string (bs (Lib.repeatL [48] j ++ Lib.decDigits n))
def sM (k : Nat) (v : Value) : Nat := match v with | .string s => k - s.size | _ => 0
set_option maxRecDepth 100000 in
theorem padded_any (n k : Nat) (w : World) (hn : n ≤ 10000) (hk : k ≤ 100) (hl : (Lib.decDigits n).length ≤ k) : Calls Tryz.prog 105 #[.int .i64 n, .int .i64 k] w (fun e w' => e = .returned (.string ⟨(padL n k).toArray⟩) ∧ Ext w w') := by
 have HD := Lib.hid (fun X => dec143_any n X (by omega))
 obtain ⟨S, hS⟩ : ∃ S : ByteArray, S = ⟨(Lib.decDigits n).toArray⟩ := ⟨_, rfl⟩
 rw [← hS] at HD
 have HST := Lib.hid (show PdRel n k (.string S) from ⟨0, by omega, by rw [hS]; rfl⟩)
 have HL := Lib.hid hl
 clear hS hl
 go_enter Tryz.func105, Tryz.ntmps105
 go_upto_region 2 with (first | (go_at_call 143; refine (HD.out _).mono ?_; rintro e w1 ⟨rfl, rfl⟩))
 go_wp2_with fail
 go_loop [5] (fun s5 => PdRel n k s5) (fun s5 => sM k s5)
 case atStart => exact HST.out
 case round =>
  obtain ⟨j, hj, rfl⟩ := hrel
  obtain ⟨Z, hZ⟩ : ∃ Z, Z = bs (Lib.repeatL [48] j ++ Lib.decDigits n) := ⟨_, rfl⟩
  have hZs : Z.size = j + (Lib.decDigits n).length := by rw [hZ, bs_size, List.length_append, Lib.repeatL_length]; simp
  have HZ := Lib.hid hZ
  rw [← hZ]
  have hZk : (Z.size : Int) ≤ 100 := by omega
  clear hZ
  by_cases hc : Z.size < k
  ·have hcI : (Z.size : Int) < (k : Int) := by omega
   have hq : ¬ 9223372036854775807 < 1 + Z.size := by omega
   have HJ := Lib.hid hj
   have HZS := Lib.hid hZs
   clear hj hZs
   go_wp2
   refine ⟨⟨j + 1, ?_, ?_⟩, ?_⟩
   ·have := HZS.out; omega
   ·have e : (⟨#[48]⟩ ++ Z : ByteArray) = bs (Lib.repeatL [48] (j + 1) ++ Lib.decDigits n) := by
     apply ByteArray.ext
     rw [HZ.out]
     simp [Lib.repeatL]
    first | exact congrArg Value.string e | (rw [e])
   ·simp only [sM, ByteArray.size_append]
    have : (⟨#[48]⟩ : ByteArray).size = 1 := rfl
    omega
  ·have hcI : ¬ (Z.size : Int) < (k : Int) := by omega
   have HE := Lib.hid (show Z = ⟨(padL n k).toArray⟩ by
    rw [HZ.out]
    unfold padL
    rw [show k - (Lib.decDigits n).length = j by omega])
   clear hj hZs
   go_wp2
   go_ret
   exact ⟨congrArg (fun z => Ending.returned (.string z)) HE.out, Ext.refl _⟩
set_option maxHeartbeats 2000000 in
set_option maxRecDepth 100000 in
theorem rprint_any (n : Nat) (w : World) (hn : n ≤ 3652058) (_htab : Tab w) : Calls Tryz.prog 52 #[.int .i64 n] w (StrPost (prL n) w) := by
 have H40 := Lib.hid (fun X => rof_any n X hn)
 obtain ⟨b1, b2, b3⟩ := date_bounds (ofD_ok hn).1
 obtain ⟨y, hy⟩ : ∃ y, y = (ofD n).1 := ⟨_, rfl⟩
 obtain ⟨m, hm⟩ : ∃ y, y = (ofD n).2.1 := ⟨_, rfl⟩
 obtain ⟨d, hd⟩ : ∃ y, y = (ofD n).2.2 := ⟨_, rfl⟩
 unfold OfPost at H40
 rw [← hy, ← hm, ← hd] at H40
 rw [← hy] at b1
 rw [← hm] at b2
 rw [← hd] at b3
 have hpr : prL n = dtx y m d := by unfold prL; rw [hy, hm, hd]
 have z1 : (padL y 4).length = 4 := by rw [pad4 (by omega)]; rfl
 have z2 : (padL m 2).length = 2 := by rw [pad2 (by omega)]; rfl
 have z3 : (padL d 2).length = 2 := by rw [pad2 (by omega)]; rfl
 obtain ⟨Y, hY⟩ : ∃ S : ByteArray, S = ⟨(padL y 4).toArray⟩ := ⟨_, rfl⟩
 obtain ⟨M, hM⟩ : ∃ S : ByteArray, S = ⟨(padL m 2).toArray⟩ := ⟨_, rfl⟩
 obtain ⟨D, hD⟩ : ∃ S : ByteArray, S = ⟨(padL d 2).toArray⟩ := ⟨_, rfl⟩
 have s1 : Y.size = 4 := by rw [← list_size, hY]; exact z1
 have s2 : M.size = 2 := by rw [← list_size, hM]; exact z2
 have s3 : D.size = 2 := by rw [← list_size, hD]; exact z3
 have HY := Lib.hid (fun X (hX : Ext w X) => (show Calls Tryz.prog 105 #[.int .i64 y, .int .i64 4] X (fun e X' => e = .returned (.string Y) ∧ Ext X X') from hY ▸ padded_any y 4 X (by omega) (by omega) (dec_len4 (by omega))))
 have HM := Lib.hid (fun X (hX : Ext w X) => (show Calls Tryz.prog 105 #[.int .i64 m, .int .i64 2] X (fun e X' => e = .returned (.string M) ∧ Ext X X') from hM ▸ padded_any m 2 X (by omega) (by omega) (dec_len2 (by omega))))
 have HD := Lib.hid (fun X (hX : Ext w X) => (show Calls Tryz.prog 105 #[.int .i64 d, .int .i64 2] X (fun e X' => e = .returned (.string D) ∧ Ext X X') from hD ▸ padded_any d 2 X (by omega) (by omega) (dec_len2 (by omega))))
 have HF := Lib.hid (show Y ++ ⟨#[45]⟩ ++ M ++ ⟨#[45]⟩ ++ D = ⟨(prL n).toArray⟩ by
  apply WideShapes.bytes_inj
  rw [app_list, app_list, app_list, app_list, hY, hM, hD, hpr]; unfold dtx; simp)
 have q1 : ¬ 9223372036854775807 < Y.size + 1 := by omega
 have q2 : ¬ 9223372036854775807 < Y.size + 1 + M.size := by omega
 have q3 : ¬ 9223372036854775807 < Y.size + 1 + M.size + 1 := by omega
 have q4 : ¬ 9223372036854775807 < Y.size + 1 + M.size + 1 + D.size := by omega
 clear hY hM hD hy hm hd hpr s1 s2 s3 z1 z2 z3
 go_enter Tryz.func52, Tryz.ntmps52
 go_upto_region 5 with (first | (go_at_call 104; refine (H40.out _).mono ?_; rintro e w1 ⟨rfl, hx1⟩))
 have hbx := DBox.new w1 y m d 110
 have HX1 := Lib.hid (hx1.alloc (.cells #[.int .i64 y, .int .i64 m, .int .i64 d] 110))
 clear hx1
 generalize w1.alloc (.cells #[.int .i64 y, .int .i64 m, .int .i64 d] 110) = w2 at *
 generalize w1.heap.size = b at *
 have HQ := Lib.hid (fun W (hW : Ext w2 W) => (show W.cell? ⟨b, 0, none⟩ = some (.int .i64 y) ∧ W.cell? ⟨b, 1, none⟩ = some (.int .i64 m) ∧ W.cell? ⟨b, 2, none⟩ = some (.int .i64 d) from ⟨(hbx.ext hW).c0, (hbx.ext hW).c1, (hbx.ext hW).c2⟩))
 obtain ⟨k0, k1, k2⟩ := HQ.out w2 (Ext.refl _)
 have hcur : Ext w2 w2.drew := (Ext.refl _).drew
 clear hbx
 go_region_held3 (fun W => W.cell? ⟨b, 0, none⟩ = some (.int .i64 y) ∧ W.cell? ⟨b, 1, none⟩ = some (.int .i64 m) ∧ W.cell? ⟨b, 2, none⟩ = some (.int .i64 d)) (first | exact HQ.out _ hcur | go_keep)
  (first
   | (go_at_call_of 105 (Value.int IntKind.i64 (y : Int)); refine (HY.out _ (HX1.out.trans hcur)).mono ?_; rintro e wn ⟨rfl, hx⟩; have hcur := hcur.trans hx; clear hx)
   | (go_at_call_of 105 (Value.int IntKind.i64 (m : Int)); refine (HM.out _ (HX1.out.trans hcur)).mono ?_; rintro e wn ⟨rfl, hx⟩; have hcur := hcur.trans hx; clear hx)
   | (go_at_call_of 105 (Value.int IntKind.i64 (d : Int)); refine (HD.out _ (HX1.out.trans hcur)).mono ?_; rintro e wn ⟨rfl, hx⟩; have hcur := hcur.trans hx; clear hx))
 go_wp2
 go_ret
 exact ⟨congrArg (fun z => Ending.returned (.string z)) HF.out, HX1.out.trans hcur⟩
end Go.Proofs.YtnpenepdechkjaaGreatDoor
