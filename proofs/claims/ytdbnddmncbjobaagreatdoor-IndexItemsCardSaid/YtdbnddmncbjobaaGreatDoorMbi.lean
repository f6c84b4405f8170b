/- The reference's Valid: walked. -/
import Derived.Test.YtdbnddmncbjobaaGreatDoorMbh
namespace Go.Proofs.YtdbnddmncbjobaaGreatDoor
section
open Go Go.RowKit
def RpO (S : ByteArray) (w : World) (s3 : Value) (w' : World) : Prop :=
 ∃ (i : Nat) (n : Int), i ≤ S.size ∧ s3 = .int .i64 i ∧ 0 ≤ n ∧ (0 < i → 0 < n) ∧ widGo S.data.toList 0 = widGo (S.data.toList.drop i) n ∧ w = w'
set_option maxHeartbeats 4000000 in
set_option maxRecDepth 100000 in
theorem rvalidW_any (S : ByteArray) (w : World) (b : Bool) (hb : validW S.data.toList = b) : Calls Tryz.prog 234 #[.string S] w (fun e w' => e = .returned (.bool b) ∧ w' = w) := by
 have HG := Hd (fun c => rglyph_any c w)
 by_cases h0 : S.size < 1
 ·have h0' : (S.size : Int) < 1 := by omega
  have HE := Hd (show b = false by
   rw [← hb, List.eq_nil_of_length_eq_zero (l := S.data.toList) (by rw [list_size]; omega)]; rfl)
  clear hb
  go_enter Tryz.func234, Tryz.ntmps234
  go_wp2
  go_ret
  exact ⟨ret_b HE.out.symm, rfl⟩
 have h0' : ¬ (S.size : Int) < 1 := by omega
 by_cases h1 : 40 < S.size
 ·have h1' : (40 : Int) < (S.size : Int) := by omega
  have HE := Hd (show b = false by rw [← hb]; unfold validW wid; rw [list_size, if_pos h1]; rfl)
  clear hb
  go_enter Tryz.func234, Tryz.ntmps234
  go_wp2
  go_ret
  exact ⟨ret_b HE.out.symm, rfl⟩
 have h1' : ¬ (40 : Int) < (S.size : Int) := by omega
 have HE := Hd (show b = decide (0 < widGo S.data.toList 0) by rw [← hb]; unfold validW wid; rw [list_size, if_neg h1])
 have hsz : S.size ≤ 40 := by omega
 have hs0 : 0 < S.size := by omega
 clear h1 h0 hb
 go_enter Tryz.func234, Tryz.ntmps234
 go_wp2
 go_loopw [3] (fun s3 w' => RpO S w s3 w') (fun s3 _ => toM S.size s3)
 case atStart => exact ⟨0, 0, by omega, rfl, by omega, fun h => by omega, rfl, rfl⟩
 obtain ⟨i, n, hi, rfl, hn0, hn1, hr, rfl⟩ := hrel
 have HR := Hd hr
 have HN := Hd hn1
 clear hr hn1
 by_cases hlt : i < S.size
 case neg =>
  obtain rfl : i = S.size := by omega
  have hni : ¬ ((S.size : Int) < (S.size : Int)) := by omega
  have HF := Hd (show b = true by
   have hn := HN.out hs0
   rw [HE.out, HR.out, List.drop_of_length_le (by rw [list_size]; omega)]
   simp only [widGo]; exact decide_eq_true hn)
  go_wp2
  go_ret
  exact ⟨ret_b HF.out.symm, rfl⟩
 have hI : (i : Int) < (S.size : Int) := by omega
 obtain ⟨c, hc⟩ : ∃ c, c = S[i]'hlt := ⟨_, rfl⟩
 have hgl := get_list S i hlt
 rw [← hc] at hgl
 have HD := Hd hgl
 have HC := Hd hc
 have hb := widB_bd c
 obtain ⟨v, hv⟩ : ∃ v, v = widB c := ⟨_, rfl⟩
 rw [← hv] at hb
 have HV := Hd hv
 have HGC := Hd (show Calls Tryz.prog 235 #[.int .u8 c.toNat] w (fun e w1 => e = .returned (.int .i64 v) ∧ w1 = w) by rw [hv]; exact HG.out c)
 clear hgl hv
 by_cases hz : v = 0
 ·have HF := Hd (show b = false by
   rw [HE.out, HR.out, HD.out, widGo, if_pos (by rw [← HV.out]; exact hz)]; rfl)
  subst hz
  go_wp2_with (first | (go_at_call 235; rw [← HC.out]; refine (HGC.out).mono ?_; rintro e w1 ⟨rfl, rfl⟩))
  go_ret
  exact ⟨ret_b HF.out.symm, rfl⟩
 ·have hzb : (v == 0) = false := by rw [beq_eq_false_iff_ne]; exact hz
  go_wp2_with (first | (go_at_call 235; rw [← HC.out]; refine (HGC.out).mono ?_; rintro e w1 ⟨rfl, rfl⟩))
  go_roundw
  case rel =>
   refine ⟨i + 1, n + v, by omega, by simp, by omega, fun _ => by omega, ?_, rfl⟩
   rw [HR.out, HD.out, widGo, if_neg (by rw [← HV.out]; exact hz), ← HV.out]
  case measure => simp only [toM]; omega
end
section
open Go Go.RowKit
def RqO (S : ByteArray) (w : World) (s3 s4 : Value) (w' : World) : Prop :=
 ∃ (i : Nat) (n : Int), i ≤ S.size ∧ s4 = .int .i64 i ∧ s3 = .int .i64 n ∧ 0 ≤ n ∧ n ≤ 12 * i ∧ widGo S.data.toList 0 = widGo (S.data.toList.drop i) n ∧ w = w'
theorem widGo_nn : ∀ (l : List UInt8) (n : Int), 0 ≤ n → 0 ≤ widGo l n
 | [], _, h => h
 | c :: r, n, h => by
  rw [widGo]
  split
  ·omega
  ·exact widGo_nn r _ (by have := widB_bd c; omega)
set_option maxHeartbeats 4000000 in
set_option maxRecDepth 100000 in
theorem rwidth_any (S : ByteArray) (w : World) (V : Int) (hV : wid S.data.toList = V) : Calls Tryz.prog 211 #[.string S] w (fun e w' => e = .returned (.int .i64 V) ∧ w' = w) := by
 have HG := Hd (fun c => rglyph_any c w)
 cases hb : validW S.data.toList
 case false =>
  have HV := Hd (rvalidW_any S w false hb)
  have HE := Hd (show V = 0 by
   rw [← hV]
   unfold validW at hb
   have h1 : ¬ 0 < wid S.data.toList := of_decide_eq_false hb
   have h2 : 0 ≤ wid S.data.toList := by unfold wid; split; omega; exact widGo_nn _ _ (by omega)
   omega)
  clear hb hV
  go_enter Tryz.func211, Tryz.ntmps211
  go_wp2_with (first | (go_at_call 234; refine (HV.out).mono ?_; rintro e w1 ⟨rfl, rfl⟩))
  go_ret
  exact ⟨ret_i HE.out.symm, rfl⟩
 have HVd := Hd (rvalidW_any S w true hb)
 unfold validW at hb
 have hp : 0 < wid S.data.toList := of_decide_eq_true hb
 have h1 : ¬ 40 < S.size := fun h => by unfold wid at hp; rw [list_size, if_pos h] at hp; omega
 have HE := Hd (show V = widGo S.data.toList 0 by rw [← hV]; unfold wid; rw [list_size, if_neg h1])
 have HP := Hd (show 0 < V by rw [← hV]; exact hp)
 have hsz : S.size ≤ 40 := by omega
 clear hb hp hV h1
 go_enter Tryz.func211, Tryz.ntmps211
 go_wp2_with (first | (go_at_call 234; refine (HVd.out).mono ?_; rintro e w1 ⟨rfl, rfl⟩))
 go_loopw [3, 4] (fun s3 s4 w' => RqO S w1 s3 s4 w') (fun _ s4 _ => toM S.size s4)
 case atStart => exact ⟨0, 0, by omega, rfl, rfl, by omega, by omega, rfl, rfl⟩
 rename World => wr
 obtain ⟨i, n, hi, rfl, rfl, hn0, hn1, hr, rfl⟩ := hrel
 have HR := Hd hr
 clear hr
 by_cases hlt : i < S.size
 case neg =>
  obtain rfl : i = S.size := by omega
  have hni : ¬ ((S.size : Int) < (S.size : Int)) := by omega
  have HF := Hd (show V = n by rw [HE.out, HR.out, List.drop_of_length_le (by rw [list_size]; omega)]; rfl)
  go_wp2
  go_ret
  exact ⟨ret_i HF.out.symm, rfl⟩
 have hI : (i : Int) < (S.size : Int) := by omega
 obtain ⟨c, hc⟩ : ∃ c, c = S[i]'hlt := ⟨_, rfl⟩
 have hgl := get_list S i hlt
 rw [← hc] at hgl
 have HD := Hd hgl
 have HC := Hd hc
 have hb := widB_bd c
 obtain ⟨v, hv⟩ : ∃ v, v = widB c := ⟨_, rfl⟩
 rw [← hv] at hb
 have HV := Hd hv
 have HGC := Hd (show ∀ W, Calls Tryz.prog 235 #[.int .u8 c.toNat] W (fun e w1 => e = .returned (.int .i64 v) ∧ w1 = W) by intro W; rw [hv]; exact rglyph_any c W)
 have hz : ¬ v = 0 := fun h => by
  have h2 := HP.out
  rw [HE.out, HR.out, HD.out, widGo, if_pos (by rw [← HV.out]; exact h)] at h2
  omega
 clear hgl hv
 go_wp2_with (first | (go_at_call 235; rw [← HC.out]; refine (HGC.out _).mono ?_; rintro e w1 ⟨rfl, rfl⟩))
 go_roundw
 case rel =>
  refine ⟨i + 1, n + v, by omega, by simp, rfl, by omega, by omega, ?_, rfl⟩
  rw [HR.out, HD.out, widGo, if_neg (by rw [← HV.out]; exact hz), ← HV.out]
 case measure => simp only [toM]; omega
end
section
open Go Go.RowKit
set_option maxHeartbeats 1000000 in
set_option maxRecDepth 100000 in
theorem rword_any (w : World) (S K : List UInt8) (tb nt next nn : Int) (hS : validW S = true) (hK : K = [] ∨ validW K = true) (ht : tb = 0 ∨ tb = 1) (hn : nt = 0 ∨ (nt ≠ 0 ∧ nt = next ∧ next ≤ nn)) :
  Calls Tryz.prog 210 #[.agg #[.string ⟨S.toArray⟩, .string ⟨K.toArray⟩, .int .i64 tb, .int .i64 nt], .int .i64 next, .int .i64 nn] w (fun e w' => e = .returned (.int .i64 0) ∧ Ext w w') := by
 have HV1 := Hd (fun X => rvalidW_any ⟨S.toArray⟩ X true hS)
 clear hS
 by_cases hk : K = []
 ·subst hk
  clear hK
  rcases ht with rfl | rfl
  ·rcases hn with rfl | ⟨h0, rfl, h2⟩
   ·go_enter Tryz.func210, Tryz.ntmps210
    go_wp2_with (first | (go_at_call 234; refine (HV1.out _).mono ?_; rintro e w1 ⟨rfl, rfl⟩))
    go_ret
    exact ⟨rfl, (Ext.refl _).alloc _⟩
   ·have h0b : (nt == 0) = false := by rw [beq_eq_false_iff_ne]; exact h0
    have h2' : ¬ nn < nt := by omega
    go_enter Tryz.func210, Tryz.ntmps210
    go_wp2_with (first | (go_at_call 234; refine (HV1.out _).mono ?_; rintro e w1 ⟨rfl, rfl⟩))
    go_ret
    exact ⟨rfl, (Ext.refl _).alloc _⟩
  ·rcases hn with rfl | ⟨h0, rfl, h2⟩
   ·go_enter Tryz.func210, Tryz.ntmps210
    go_wp2_with (first | (go_at_call 234; refine (HV1.out _).mono ?_; rintro e w1 ⟨rfl, rfl⟩))
    go_ret
    exact ⟨rfl, (Ext.refl _).alloc _⟩
   ·have h0b : (nt == 0) = false := by rw [beq_eq_false_iff_ne]; exact h0
    have h2' : ¬ nn < nt := by omega
    go_enter Tryz.func210, Tryz.ntmps210
    go_wp2_with (first | (go_at_call 234; refine (HV1.out _).mono ?_; rintro e w1 ⟨rfl, rfl⟩))
    go_ret
    exact ⟨rfl, (Ext.refl _).alloc _⟩
 ·have hKv := hK.resolve_left hk
  have HV2 := Hd (fun X => rvalidW_any ⟨K.toArray⟩ X true hKv)
  obtain ⟨SB, hSB⟩ : ∃ SB : ByteArray, (⟨S.toArray⟩ : ByteArray) = SB := ⟨_, rfl⟩
  obtain ⟨KB, hKB⟩ : ∃ KB : ByteArray, (⟨K.toArray⟩ : ByteArray) = KB := ⟨_, rfl⟩
  have hkn : ¬ KB.toList = [] := by rw [← hKB, ByteArray.toList_eq]; exact hk
  have hkb : (KB.toList == ([] : List UInt8)) = false := by simpa using hkn
  rw [hSB] at HV1 ⊢
  rw [hKB] at HV2 ⊢
  clear hK hKv hSB hKB hk
  rcases ht with rfl | rfl
  ·rcases hn with rfl | ⟨h0, rfl, h2⟩
   ·go_enter Tryz.func210, Tryz.ntmps210
    go_wp2_with fail
    refine (HV1.out _).mono ?_
    rintro e w1 ⟨rfl, rfl⟩
    go_wp2_with fail
    refine (HV2.out _).mono ?_
    rintro e w1 ⟨rfl, rfl⟩
    go_wp2_with fail
    go_ret
    exact ⟨rfl, (Ext.refl _).alloc _⟩
   ·have h0b : (nt == 0) = false := by rw [beq_eq_false_iff_ne]; exact h0
    have h2' : ¬ nn < nt := by omega
    go_enter Tryz.func210, Tryz.ntmps210
    go_wp2_with fail
    refine (HV1.out _).mono ?_
    rintro e w1 ⟨rfl, rfl⟩
    go_wp2_with fail
    refine (HV2.out _).mono ?_
    rintro e w1 ⟨rfl, rfl⟩
    go_wp2_with fail
    go_ret
    exact ⟨rfl, (Ext.refl _).alloc _⟩
  ·rcases hn with rfl | ⟨h0, rfl, h2⟩
   ·go_enter Tryz.func210, Tryz.ntmps210
    go_wp2_with fail
    refine (HV1.out _).mono ?_
    rintro e w1 ⟨rfl, rfl⟩
    go_wp2_with fail
    refine (HV2.out _).mono ?_
    rintro e w1 ⟨rfl, rfl⟩
    go_wp2_with fail
    go_ret
    exact ⟨rfl, (Ext.refl _).alloc _⟩
   ·have h0b : (nt == 0) = false := by rw [beq_eq_false_iff_ne]; exact h0
    have h2' : ¬ nn < nt := by omega
    go_enter Tryz.func210, Tryz.ntmps210
    go_wp2_with fail
    refine (HV1.out _).mono ?_
    rintro e w1 ⟨rfl, rfl⟩
    go_wp2_with fail
    refine (HV2.out _).mono ?_
    rintro e w1 ⟨rfl, rfl⟩
    go_wp2_with fail
    go_ret
    exact ⟨rfl, (Ext.refl _).alloc _⟩
end
section
open Go Go.RowKit
def RzL (m : Nat) (s4 : Value) (w w' : World) : Prop := ∃ i : Nat, i ≤ m ∧ s4 = .int .i64 i ∧ w = w'
set_option maxHeartbeats 4000000 in
set_option maxRecDepth 100000 in
theorem rsizes_any (P : Nat → Prop) (w : World) (t : Tx) (A A' : Option Addr) (n n' c c' : Nat) (h1 : kWs.row w P A n t.paras) (h2 : kWs.row w P A' n' t.notes) (hv : ChkT t) :
  Calls Tryz.prog 209 #[.agg #[.slice A n c, .slice A' n' c']] w (fun e w' => e = .returned (.int .i64 0) ∧ Ext w w') := by
 have HE1 := Lay.row_len h1
 have HE2 := Lay.row_len h2
 have b1 := hv.np
 have b2 := hv.nn
 have HV := Hd hv.len
 clear hv
 obtain ⟨m, hm⟩ : ∃ m, n + n' = m := ⟨_, rfl⟩
 obtain ⟨W0, hW0⟩ : ∃ W0, w.alloc (.cells #[.slice A n c, .slice A' n' c'] 53) = W0 := ⟨_, rfl⟩
 obtain ⟨z, hz⟩ : ∃ z, w.heap.size = z := ⟨_, rfl⟩
 have hx0 : Ext w W0 := by rw [← hW0]; exact (Ext.refl w).alloc _
 have hB0 : W0.heap[z]? = some (.cells #[.slice A n c, .slice A' n' c'] 53 (0, 0)) := by rw [← hW0, ← hz]; exact haA _ _ _ _ rfl
 obtain ⟨A1, c1, w1, r1, o1, x1⟩ := own_app (k := kWs) (Pr := Tryz.prog) (t := 51) (e := 54) Tryz.underlying51 info54 rfl (by decide) (by omega) (Lay.own_nil kWs 54 W0 W0.heap.size P) (Ext.refl W0) (Lay.row_ext h1 hx0) c (by simp; omega)
 simp only [List.length_nil, Nat.zero_add, List.nil_append] at r1 o1
 obtain ⟨A2, c2, w2, r2, o2, x2⟩ := own_app (k := kWs) (Pr := Tryz.prog) (t := 51) (e := 54) Tryz.underlying51 info54 rfl (by decide) (by omega) o1 x1 (Lay.row_ext h2 hx0) c' (by omega)
 rw [← HE1, hm] at r2 o2
 obtain ⟨A3, c3, e3, _, hr⟩ := Lay.own_row o2
 have e3a := (Value.slice.inj e3).1
 have e3b := (Value.slice.inj e3).2.1
 rw [← e3a, ← e3b] at hr
 have HR := Hd hr
 have HX2 := Hd (hx0.trans x2)
 have HL := Hd e3b
 have a0 := cof hB0 (i := 0) (u := .slice A n c) rfl
 have a1 := cof hB0 (i := 1) (u := .slice A' n' c') rfl
 have d1 := cof ((x1.block z (lt_of_block hB0)).trans hB0) (i := 1) (u := .slice A' n' c') rfl
 have HR1 := Hd r1
 have HR2 := Hd r2
 have n1 : ¬ (100 : Int) < (n : Int) := by omega
 have n2 : ¬ (100 : Int) < (n' : Int) := by omega
 have hmb : m ≤ 200 := by omega
 clear h1 h2 hx0 hB0 r1 o1 x1 r2 o2 x2 e3 e3a e3b hr HE1 HE2 hm
 go_enter Tryz.func209, Tryz.ntmps209
 go_upto_region 1 with (fail)
 try rw [hW0]
 try rw [hz]
 go_wp2_with (first | (at_builtin; refine wpList_append_run (s := .tmp 16) (x := .tmp 18) HR1.out rfl rfl rfl rfl rfl ?_) | (at_builtin; refine wpList_append_run (s := .tmp 20) (x := .tmp 22) HR2.out rfl rfl rfl rfl rfl ?_))
 go_loopw [4] (fun s4 w' => RzL m s4 w2 w') (fun s4 _ => toM m s4)
 case atStart => exact ⟨0, by omega, rfl, rfl⟩
 obtain ⟨i, hi, rfl, rfl⟩ := hrel
 by_cases hlt : i < m
 case pos =>
  have hI : (i : Int) < (m : Int) := by omega
  obtain ⟨p, hp⟩ : ∃ p, (t.paras ++ t.notes)[i]? = some p := ⟨_, List.getElem?_eq_getElem (by have := HL.out; omega)⟩
  have hpl := (HV.out p (List.mem_of_getElem? hp)).2
  obtain ⟨gb, off, cs, rfl, hgb, _, hrep, hcell⟩ := Lay.row_at HR.out hp
  obtain ⟨Ap, cp, rfl, _, _⟩ := kWs_rep.1 hrep
  have hcl := hcell 0 _ rfl
  rw [kWs_sz, Nat.mul_one, Nat.add_zero] at hcl
  have n3 : ¬ (500 : Int) < (p.length : Int) := by omega
  clear hp hrep hcell
  go_wp2_with fail
  go_roundw
  case rel => exact ⟨i + 1, by omega, by simp, rfl⟩
  case measure => simp only [toM]; omega
 obtain rfl : i = m := by omega
 have hni : ¬ ((i : Int) < (i : Int)) := by omega
 go_wp2_with fail
 rename World => wr
 go_loopw [5] (fun s5 w' => RzL i s5 wr w') (fun s5 _ => toM i s5)
 case atStart => exact ⟨0, by omega, rfl, rfl⟩
 obtain ⟨q, hq, rfl, rfl⟩ := hrel
 by_cases hql : q < i
 case pos =>
  have hI : (q : Int) < (i : Int) := by omega
  obtain ⟨p, hp⟩ : ∃ p, (t.paras ++ t.notes)[q]? = some p := ⟨_, List.getElem?_eq_getElem (by have := HL.out; omega)⟩
  have hpl := (HV.out p (List.mem_of_getElem? hp)).1
  obtain ⟨gb, off, cs, rfl, hgb, _, hrep, hcell⟩ := Lay.row_at HR.out hp
  obtain ⟨Ap, cp, rfl, _, _⟩ := kWs_rep.1 hrep
  have hcl := hcell 0 _ rfl
  rw [kWs_sz, Nat.mul_one, Nat.add_zero] at hcl
  have n3 : ((p.length : Int) == 0) = false := by rw [beq_eq_false_iff_ne]; omega
  have n4 : ¬ (p.length : Int) = 0 := by omega
  clear hp hrep hcell hpl
  go_wp2_with fail
  go_roundw
  case rel => exact ⟨q + 1, by omega, by simp, rfl⟩
  case measure => simp only [toM]; omega
 obtain rfl : q = i := by omega
 go_wp2_with fail
 go_ret
 exact ⟨rfl, HX2.out⟩
end
section
open Go Go.RowKit
def RkO (W : World) (t : Tx) (s3 s4 s5 : Value) (w' : World) : Prop := ∃ (i k : Nat), i ≤ t.paras.length ∧ k ≤ 500 * i ∧ s3 = .int .i64 0 ∧ s5 = .int .i64 i ∧ s4 = .int .i64 ((k : Int) + 1) ∧ Ext W w' ∧
 chkPs t.notes.length (t.paras.length - i) ((t.paras ++ t.notes).drop i) k = .inr t.notes.length
def RkI (W : World) (nn : Int) (p : List Wd) (k0 : Nat) (k1 : Int) (s3 s4 s6 : Value) (w' : World) : Prop := ∃ (j k : Nat), j ≤ p.length ∧ k ≤ k0 + j ∧ s3 = .int .i64 0 ∧ s6 = .int .i64 j ∧ s4 = .int .i64 ((k : Int) + 1) ∧ Ext W w' ∧
 chkWs true nn (p.drop j) k = .inr k1
def RkN (W : World) (t : Tx) (k : Nat) (s3 s7 : Value) (w' : World) : Prop := ∃ (i : Nat), i ≤ t.notes.length ∧ s3 = .int .i64 0 ∧ s7 = .int .i64 i ∧ Ext W w' ∧ chkPs t.notes.length 0 (t.notes.drop i) k = .inr t.notes.length
def RkM (W : World) (nn : Int) (p : List Wd) (k : Nat) (k1 : Int) (s3 s8 : Value) (w' : World) : Prop := ∃ (j : Nat), j ≤ p.length ∧ s3 = .int .i64 0 ∧ s8 = .int .i64 j ∧ Ext W w' ∧ chkWs false nn (p.drop j) k = .inr k1
theorem chkPs_cons {nn : Int} {b : Nat} {ps : List (List Wd)} {i : Nat} {p : List Wd} {k K : Int} (hp : ps[i]? = some p) (h : chkPs nn b (ps.drop i) k = .inr K) : ∃ k1, chkWs (decide (0 < b)) nn p k = .inr k1 ∧ chkPs nn (b - 1) (ps.drop (i + 1)) k1 = .inr K := by
 rw [dwl _ hp] at h
 simp only [chkPs] at h
 split at h
 ·cases h
 ·next k1 hk1 => exact ⟨k1, hk1, h⟩
set_option maxHeartbeats 8000000 in
set_option maxRecDepth 100000 in
theorem rcheck_any (P : Nat → Prop) (w : World) (t : Tx) (A A' : Option Addr) (n n' c c' : Nat) (h1 : kWs.row w P A n t.paras) (h2 : kWs.row w P A' n' t.notes) (hc : chkT t = 0) :
  Calls Tryz.prog 178 #[.agg #[.slice A n c, .slice A' n' c']] w (fun e w' => e = .returned (.int .i64 0) ∧ Ext w w') := by
 have hv := chkT_val hc
 have HE1 := Hd (Lay.row_len h1)
 have HE2 := Hd (Lay.row_len h2)
 have bn : n ≤ 100 := by have := hv.np; have := HE1.out; omega
 have bn' : n' ≤ 100 := by have := hv.nn; have := HE2.out; omega
 have HV := Hd hv.len
 have HP := Hd (chkPs_inv hc)
 have HSZ := Hd (fun X (hX : Ext w X) => rsizes_any P X t A A' n n' c c' (Lay.row_ext h1 hX) (Lay.row_ext h2 hX) hv)
 have HR1 := Hd h1
 have HR2 := Hd h2
 clear h1 h2 hc hv
 go_enter Tryz.func178, Tryz.ntmps178
 go_upto_region 1 with (fail)
 obtain ⟨W0, hW0⟩ : ∃ W0, w.alloc (.cells #[.slice A n c, .slice A' n' c'] 53) = W0 := ⟨_, rfl⟩
 obtain ⟨z, hz⟩ : ∃ z, w.heap.size = z := ⟨_, rfl⟩
 have hx0 : Ext w W0 := by rw [← hW0]; exact (Ext.refl w).alloc _
 have hB0 : W0.heap[z]? = some (.cells #[.slice A n c, .slice A' n' c'] 53 (0, 0)) := by rw [← hW0, ← hz]; exact haA _ _ _ _ rfl
 rw [hW0, hz]
 have HX0 := Hd hx0
 have HB0 := Hd hB0
 have HCA := Hd (fun X (hX : Ext W0 X) => (show X.cell? ⟨z, 0, none⟩ = some (.slice A n c) ∧ X.cell? ⟨z, 1, none⟩ = some (.slice A' n' c') from
  have h9 := (hX.block _ (lt_of_block hB0)).trans hB0
  ⟨cof h9 (i := 0) rfl, cof h9 (i := 1) rfl⟩))
 have a0 := (HCA.out W0 (Ext.refl _)).1
 have a1 := (HCA.out W0 (Ext.refl _)).2
 clear hW0 hz hx0 hB0
 go_wp2_with (first | (go_at_call 209; refine (HSZ.out _ HX0.out).mono ?_; rintro e w1 ⟨rfl, hx1⟩))
 have HX1 := Hd hx1
 clear a0 a1 hx1
 go_loopw [3, 4, 5, 6] (fun s3 s4 s5 _ w' => RkO w1 t s3 s4 s5 w') (fun _ _ s5 _ _ => toM n s5)
 case atStart => exact ⟨0, 0, by omega, by omega, rfl, rfl, rfl, Ext.refl _, by simpa using HP.out⟩
 obtain ⟨i, k, hi, hk, rfl, rfl, rfl, hx, heq⟩ := hrel
 rename World => wp
 have HEQ := Hd heq
 have HXR := Hd hx
 obtain ⟨c0, c1⟩ := HCA.out _ (HX1.out.trans hx)
 clear hx heq
 rw [← HE1.out] at hi
 by_cases hlt : i < n
 case pos =>
  have hI : (i : Int) < (n : Int) := by omega
  obtain ⟨p, hp⟩ : ∃ p, t.paras[i]? = some p := ⟨_, List.getElem?_eq_getElem (by have := HE1.out; omega)⟩
  have hp' : (t.paras ++ t.notes)[i]? = some p := by rw [List.getElem?_append_left (by have := HE1.out; omega)]; exact hp
  obtain ⟨k1, hw1, hw2⟩ := chkPs_cons hp' HEQ.out
  rw [show decide (0 < t.paras.length - i) = true from decide_eq_true (by have := HE1.out; omega)] at hw1
  have hpl := (HV.out p (List.mem_append_left _ (List.mem_of_getElem? hp))).2
  obtain ⟨gb, off, cs, rfl, hgb, _, hrep, hcell⟩ := Lay.row_at (Lay.row_ext HR1.out (HX0.out.trans (HX1.out.trans HXR.out))) hp
  obtain ⟨Ap, cp, rfl, _, hrowp⟩ := kWs_rep.1 hrep
  have hcl := hcell 0 _ rfl
  rw [kWs_sz, Nat.mul_one, Nat.add_zero] at hcl
  have HRP := Hd hrowp
  have HW1 := Hd hw1
  have HW2 := Hd hw2
  have HCL := Hd (fun X (hX : Ext wp X) => (show X.cell? ⟨z, 0, none⟩ = some (.slice (some ⟨gb, off, none⟩) n c) ∧ X.cell? ⟨z, 1, none⟩ = some (.slice A' n' c') ∧ X.cell? ⟨gb, off + i, none⟩ = some (.slice Ap p.length cp) from
   have h9 := HCA.out X (HX1.out.trans (HXR.out.trans hX))
   ⟨h9.1, h9.2, (hX.cells.1 gb (off + i) (World.block_lt_of_cell? _ _ hcl)).trans hcl⟩))
  clear hp hp' hw1 hw2 hrep hcell hrowp
  go_wp2_with fail
  go_loopw [3, 4, 6] (fun s3 s4 s6 w' => RkI wp t.notes.length p k k1 s3 s4 s6 w') (fun _ _ s6 _ => toM p.length s6)
  case atStart => exact ⟨0, k, by omega, by omega, rfl, rfl, rfl, Ext.refl _, HW1.out⟩
  clear c0 c1 hcl
  obtain ⟨j, k', hj, hk', rfl, rfl, rfl, hxi, heqi⟩ := hrel
  have HEQi := Hd heqi
  have HXI := Hd hxi
  obtain ⟨c0, c1, hcl⟩ := HCL.out _ hxi
  clear hxi heqi
  by_cases hjl : j < p.length
  case neg =>
   obtain rfl : j = p.length := by omega
   have hni : ¬ ((p.length : Int) < (p.length : Int)) := by omega
   have HK1 := Hd (show k1 = (k' : Int) by
    have h := HEQi.out
    rw [List.drop_length, chkWs] at h
    injection h with h; exact h.symm)
   go_wp2_with fail
   go_roundw
   case rel =>
    refine ⟨i + 1, k', by have := HE1.out; omega, by omega, rfl, by simp, rfl, HXR.out.trans HXI.out, ?_⟩
    have h9 := HW2.out
    rw [HK1.out, Nat.sub_sub] at h9
    exact h9
   case measure => simp only [toM]; omega
  have hJ : (j : Int) < (p.length : Int) := by omega
  obtain ⟨x, hx⟩ : ∃ x, p[j]? = some x := ⟨_, List.getElem?_eq_getElem hjl⟩
  obtain ⟨v1, v2, v3, v4⟩ := chkWs_inv (by have h := HEQi.out; rw [dwl _ hx] at h; exact h)
  obtain ⟨g2, o2, cs, rfl, hg2, _, hrep, hcell⟩ := Lay.row_at (Lay.row_ext HRP.out HXI.out) hx
  rw [kWd_rep] at hrep
  subst hrep
  have e0 := hcell 0 _ rfl
  have e1 := hcell 1 _ rfl
  have e2 := hcell 2 _ rfl
  have e3 := hcell 3 _ rfl
  rw [kWd_sz] at e0 e1 e2 e3
  rw [Nat.add_zero] at e0
  obtain ⟨x1, x2, x3, x4⟩ := x
  simp only at v1 v2 v3 v4 e0 e1 e2 e3
  have hn4 : x4 = 0 ∨ (x4 ≠ 0 ∧ x4 = (k' : Int) + 1 ∧ (k' : Int) + 1 ≤ (n' : Int)) := by
   rcases v4 with ⟨e4, _⟩ | ⟨e4, _, e6, e7, _⟩
   ·exact .inl e4
   ·exact .inr ⟨e4, e6, by have := HE2.out; omega⟩
  have HWD := Hd (fun X => rword_any X x1 x2 x3 x4 ((k' : Int) + 1) (n' : Int) v1 (by
   rcases v2 with v2 | v2
   ·exact .inl v2
   ·exact .inr v2) v3 hn4)
  have HQ := Hd (fun X (hX : Ext wp X) => HCL.out X hX)
  rename World => wi
  have HQ2 := Hd (fun X (hX : Ext wi X) => (show X.cell? ⟨g2, o2 + j * 4, none⟩ = some (.string ⟨x1.toArray⟩) ∧ X.cell? ⟨g2, o2 + j * 4 + 1, none⟩ = some (.string ⟨x2.toArray⟩) ∧ X.cell? ⟨g2, o2 + j * 4 + 2, none⟩ = some (.int .i64 x3) ∧ X.cell? ⟨g2, o2 + j * 4 + 3, none⟩ = some (.int .i64 x4) from
   have h9 := World.block_lt_of_cell? _ _ e0
   ⟨(hX.cells.1 g2 _ h9).trans e0, (hX.cells.1 g2 _ h9).trans e1, (hX.cells.1 g2 _ h9).trans e2, (hX.cells.1 g2 _ h9).trans e3⟩))
  have V4 := Hd v4
  clear hx hcell v1 v2 v3 v4 hn4
  go_upto_region 11 with (fail)
  have hcur : Ext wi wi.drew := (Ext.refl _).drew
  go_region_held3 (fun W => W.cell? ⟨z, 0, none⟩ = some (.slice (some ⟨gb, off, none⟩) n c) ∧ W.cell? ⟨z, 1, none⟩ = some (.slice A' n' c') ∧ W.cell? ⟨gb, off + i, none⟩ = some (.slice (some ⟨g2, o2, none⟩) p.length cp) ∧ W.cell? ⟨g2, o2 + j * 4, none⟩ = some (.string ⟨x1.toArray⟩) ∧ W.cell? ⟨g2, o2 + j * 4 + 1, none⟩ = some (.string ⟨x2.toArray⟩) ∧ W.cell? ⟨g2, o2 + j * 4 + 2, none⟩ = some (.int .i64 x3) ∧ W.cell? ⟨g2, o2 + j * 4 + 3, none⟩ = some (.int .i64 x4))
   (exact ⟨(HCL.out _ (HXI.out.trans hcur)).1, (HCL.out _ (HXI.out.trans hcur)).2.1, (HCL.out _ (HXI.out.trans hcur)).2.2, (HQ2.out _ hcur).1, (HQ2.out _ hcur).2.1, (HQ2.out _ hcur).2.2.1, (HQ2.out _ hcur).2.2.2⟩)
   (first | (go_at_call 210; refine (HWD.out _).mono ?_; rintro e wG ⟨rfl, hxG⟩; have hcur := hcur.trans hxG))
  clear c0 c1 hcl e0 e1 e2 e3
  obtain ⟨c0, c1, hcl⟩ := HCL.out _ (HXI.out.trans hcur)
  obtain ⟨e0, e1, e2, e3⟩ := HQ2.out _ hcur
  have HXG := Hd (HXI.out.trans hcur)
  clear hcur
  rcases V4.out with ⟨e4, e5⟩ | ⟨e4, e5, e6, e7, e8⟩
  ·subst e4
   have HEN := Hd e5
   clear e5
   go_wp2_with fail
   go_roundw
   case rel => exact ⟨j + 1, k', by omega, by omega, rfl, by simp, rfl, HXG.out, HEN.out⟩
   case measure => simp only [toM]; omega
  ·have HEN := Hd e8
   subst e6
   have h3' : ¬ ((k' : Int) + 1 = 0) := by omega
   have h4' : (((k' : Int) + 1) == 0) = false := by rw [beq_eq_false_iff_ne]; omega
   clear e5 e8 e7 e4
   go_wp2_with fail
   go_roundw
   case rel => exact ⟨j + 1, k' + 1, by omega, by omega, rfl, by simp, by simp, HXG.out, HEN.out⟩
   case measure => simp only [toM]; omega
 obtain rfl : i = n := by omega
 have hni : ¬ ((i : Int) < (i : Int)) := by omega
 have HE0 := Hd (show chkPs t.notes.length 0 (t.notes.drop 0) k = .inr t.notes.length by
  have h := HEQ.out
  rw [HE1.out, List.drop_left, Nat.sub_self] at h
  exact h)
 go_wp2_with fail
 have HCN := Hd (fun X (hX : Ext wp X) => HCA.out X (HX1.out.trans (HXR.out.trans hX)))
 go_loopw [3, 7, 8] (fun s3 s7 _ w' => RkN wp t k s3 s7 w') (fun _ s7 _ _ => toM n' s7)
 case atStart => exact ⟨0, by omega, rfl, rfl, Ext.refl _, HE0.out⟩
 clear c0 c1
 obtain ⟨q, hq, rfl, rfl, hx, heq⟩ := hrel
 have HEQn := Hd heq
 have HXN := Hd hx
 obtain ⟨c0, c1⟩ := HCN.out _ hx
 clear hx heq
 rw [← HE2.out] at hq
 by_cases hql : q < n'
 case neg =>
  obtain rfl : q = n' := by omega
  have hnq : ¬ ((q : Int) < (q : Int)) := by omega
  have HK : k = q := by
   have h := HEQn.out
   rw [List.drop_of_length_le (by have := HE2.out; omega), chkPs] at h
   injection h with h
   have := HE2.out
   omega
  subst HK
  go_wp2_with fail
  go_ret
  exact ⟨rfl, HX0.out.trans (HX1.out.trans (HXR.out.trans HXN.out))⟩
 have hI : (q : Int) < (n' : Int) := by omega
 obtain ⟨p, hp⟩ : ∃ p, t.notes[q]? = some p := ⟨_, List.getElem?_eq_getElem (by have := HE2.out; omega)⟩
 obtain ⟨k1, hw1, hw2⟩ := chkPs_cons hp HEQn.out
 rw [show decide (0 < 0) = false from rfl] at hw1
 have hpl := (HV.out p (List.mem_append_right _ (List.mem_of_getElem? hp))).2
 obtain ⟨gb, off, cs, rfl, hgb, _, hrep, hcell⟩ := Lay.row_at (Lay.row_ext HR2.out (HX0.out.trans (HX1.out.trans (HXR.out.trans HXN.out)))) hp
 obtain ⟨Ap, cp, rfl, _, hrowp⟩ := kWs_rep.1 hrep
 have hcl := hcell 0 _ rfl
 rw [kWs_sz, Nat.mul_one, Nat.add_zero] at hcl
 have HRP := Hd hrowp
 have HW1 := Hd hw1
 have HW2 := Hd hw2
 rename World => wn
 have HCL := Hd (fun X (hX : Ext wn X) => (show X.cell? ⟨z, 1, none⟩ = some (.slice (some ⟨gb, off, none⟩) n' c') ∧ X.cell? ⟨gb, off + q, none⟩ = some (.slice Ap p.length cp) from
  ⟨(HCN.out X (HXN.out.trans hX)).2, (hX.cells.1 gb (off + q) (World.block_lt_of_cell? _ _ hcl)).trans hcl⟩))
 clear hp hw1 hw2 hrep hcell hrowp
 go_wp2_with fail
 go_loopw [3, 8] (fun s3 s8 w' => RkM wn t.notes.length p k k1 s3 s8 w') (fun _ s8 _ => toM p.length s8)
 case atStart => exact ⟨0, by omega, rfl, rfl, Ext.refl _, HW1.out⟩
 clear c0 c1 hcl
 obtain ⟨j, hj, rfl, rfl, hxi, heqi⟩ := hrel
 have HEQi := Hd heqi
 have HXI := Hd hxi
 obtain ⟨c1, hcl⟩ := HCL.out _ hxi
 clear hxi heqi
 by_cases hjl : j < p.length
 case neg =>
  obtain rfl : j = p.length := by omega
  have hnj : ¬ ((p.length : Int) < (p.length : Int)) := by omega
  have HK1 := Hd (show k1 = (k : Int) by
   have h := HEQi.out
   rw [List.drop_length, chkWs] at h
   injection h with h; exact h.symm)
  go_wp2_with fail
  go_roundw
  case rel =>
   refine ⟨q + 1, by have := HE2.out; omega, rfl, by simp, HXN.out.trans HXI.out, ?_⟩
   have h9 := HW2.out
   rwa [HK1.out] at h9
  case measure => simp only [toM]; omega
 have hJ : (j : Int) < (p.length : Int) := by omega
 obtain ⟨x, hx⟩ : ∃ x, p[j]? = some x := ⟨_, List.getElem?_eq_getElem hjl⟩
 obtain ⟨v1, v2, v3, v4⟩ := chkWs_inv (by have h := HEQi.out; rw [dwl _ hx] at h; exact h)
 have v5 : x.nt = 0 ∧ chkWs false t.notes.length (p.drop (j + 1)) k = .inr k1 := by
  rcases v4 with h | ⟨_, h, _⟩
  ·exact h
  ·cases h
 obtain ⟨g2, o2, cs, rfl, hg2, _, hrep, hcell⟩ := Lay.row_at (Lay.row_ext HRP.out HXI.out) hx
 rw [kWd_rep] at hrep
 subst hrep
 have e0 := hcell 0 _ rfl
 have e1 := hcell 1 _ rfl
 have e2 := hcell 2 _ rfl
 have e3 := hcell 3 _ rfl
 rw [kWd_sz] at e0 e1 e2 e3
 rw [Nat.add_zero] at e0
 obtain ⟨x1, x2, x3, x4⟩ := x
 simp only at v1 v2 v3 v5 e0 e1 e2 e3
 obtain ⟨rfl, v6⟩ := v5
 have HEN := Hd v6
 have HWD := Hd (fun X => rword_any X x1 x2 x3 0 0 0 v1 (by
  rcases v2 with v2 | v2
  ·exact .inl v2
  ·exact .inr v2) v3 (.inl rfl))
 clear hx hcell v1 v2 v3 v4 v6
 go_wp2_with (first | (go_at_call 210; refine (HWD.out _).mono ?_; rintro e wG ⟨rfl, hxG⟩))
 go_roundw
 case rel => exact ⟨j + 1, by omega, rfl, by simp, HXI.out.trans hxG, HEN.out⟩
 case measure => simp only [toM]; omega
end
section
open Go Go.RowKit
def ReN (w : World) (n : Nat) (s5 : Value) (w' : World) : Prop := ∃ i : Nat, i ≤ n ∧ s5 = .int .i64 i ∧ w = w'
set_option maxHeartbeats 4000000 in
set_option maxRecDepth 100000 in
theorem rregular_any (P : Nat → Prop) (w : World) (A : Option Addr) (n c : Nat) (ws : List Int) (m : Int) (h : kInt.row w P A n ws) (hw : Wdr ws) (hn : n ≤ 500) (hm0 : 500 ≤ m) (hm : m ≤ 2000) :
  Calls Tryz.prog 236 #[.slice A n c, .int .i64 m] w (fun e w' => e = .returned (.int .i64 0) ∧ w = w') := by
 have HE := Hd (Lay.row_len h)
 have HR := Hd h
 have HW := Hd hw
 have h1 : ¬ (500 : Int) < (n : Int) := by omega
 have h2 : ¬ m < 500 := by omega
 have h3 : ¬ (2000 : Int) < m := by omega
 clear h hw
 go_enter Tryz.func236, Tryz.ntmps236
 go_wp2_with fail
 go_loopw [5] (fun s5 w' => ReN w n s5 w') (fun s5 _ => toM n s5)
 case atStart => exact ⟨0, by omega, rfl, rfl⟩
 obtain ⟨i, hi, rfl, rfl⟩ := hrel
 by_cases hlt : i < n
 case neg =>
  obtain rfl : i = n := by omega
  have hni : ¬ ((i : Int) < (i : Int)) := by omega
  go_wp2_with fail
  go_ret
  exact ⟨rfl, rfl⟩
 have hI : (i : Int) < (n : Int) := by omega
 obtain ⟨x, hx⟩ : ∃ x, ws[i]? = some x := ⟨_, List.getElem?_eq_getElem (by have := HE.out; omega)⟩
 have hxb := HW.out x (List.mem_of_getElem? hx)
 obtain ⟨b0, off, rfl, hb0, _, hcell⟩ := int_at HR.out hx
 have y1 : ¬ x < 1 := by omega
 have y2 : ¬ (480 : Int) < x := by omega
 clear hx hxb
 go_wp2_with fail
 go_roundw
 case rel => exact ⟨i + 1, by omega, by simp, rfl⟩
 case measure => simp only [toM]; omega
end
end Go.Proofs.YtdbnddmncbjobaaGreatDoor