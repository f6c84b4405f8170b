/- The reference's among, operators, Level. -/
import Derived.Test.YtnpenepdechkjaaGreatDoorVb
import Derived.Test.YtnpenepdechkjaaGreatDoorKd
namespace Go.Proofs.YtnpenepdechkjaaGreatDoor
open Go Go.RowKit

def AmRel (W : World) (ss : List (List UInt8)) (s : List UInt8) (s5 : Value) (X : World) : Prop := ∃ j : Nat, j ≤ ss.length ∧ s5 = .int .i64 j ∧ s ∉ ss.take j ∧ Ext W X
theorem SR.ext {X X' : World} {g : Nat} {ss : List (List UInt8)} (h : SR X g ss) (hx : Ext X X') : SR X' g ss := h.mv (b := g + 1) (Mv.of_ext hx) (by omega)
set_option maxRecDepth 100000 in
theorem among_any (ss : List (List UInt8)) (g c : Nat) (s : List UInt8) (S : ByteArray) (hS : S = bs s) (W : World) (h : SR W g ss) (hl : ss.length ≤ 100) : Calls Tryz.prog 146 #[.slice (some ⟨g, 0, none⟩) ss.length c, .string S] W (BQ2 (decide (s ∈ ss)) W) := by
 have HR := Lib.hid h
 have HS := Lib.hid hS
 have hgl := h.lt
 clear h hS
 go_enter Tryz.func146, Tryz.ntmps146
 go_wp2
 go_loopw [5] (fun s5 X => AmRel W ss s s5 X) (fun s5 _ => toM ss.length s5)
 case atStart => exact ⟨0, Nat.zero_le _, rfl, by simp, Ext.refl _⟩
 case round =>
  obtain ⟨j, hj, rfl, hn, hx⟩ := hrel
  have HN := Lib.hid hn
  have HX := Lib.hid hx
  have hgl2 := Nat.lt_of_lt_of_le hgl hx.lt
  clear hn hx
  by_cases hlt : j < ss.length
  ·have hI : (j : Int) < (ss.length : Int) := by omega
   obtain ⟨x, hx⟩ : ∃ x, ss[j]? = some x := ⟨_, List.getElem?_eq_getElem hlt⟩
   have q0 := (HR.out.ext HX.out).at_ j x hx
   have HYtnpenepdechkjaaGreatDoor := Lib.hid hx
   obtain ⟨Z, hZ⟩ : ∃ Z, Z = bs x := ⟨_, rfl⟩
   rw [← hZ] at q0
   clear hx
   by_cases he : x = s
   ·have t1 := bs_eq hZ HS.out he
    have HV := Lib.hid (show decide (s ∈ ss) = true from decide_eq_true (by rw [← he]; exact List.mem_of_getElem? HYtnpenepdechkjaaGreatDoor.out))
    clear hZ he
    go_wp2
    go_ret
    exact ⟨ret_bool HV.out.symm, HX.out⟩
   ·have t1 := bs_ne hZ HS.out he
    have HE := Lib.hid he
    clear hZ he
    go_wp2
    refine ⟨⟨j + 1, by omega, by simp, ?_, HX.out⟩, by simp only [toM]; omega⟩
    rw [List.take_add_one, HYtnpenepdechkjaaGreatDoor.out]
    intro hm
    rcases List.mem_append.1 hm with h1 | h1
    ·exact HN.out h1
    ·have h2 : s = x := by simpa using h1
     exact HE.out h2.symm
  ·obtain rfl : j = ss.length := by omega
   have hni : ¬ ((ss.length : Int) < (ss.length : Int)) := by omega
   have HV := Lib.hid (show decide (s ∈ ss) = false from decide_eq_false (by have := HN.out; rwa [List.take_length] at this))
   go_wp2
   go_ret
   exact ⟨ret_bool HV.out.symm, HX.out⟩
def opsL (L : Nat) : List (List UInt8) := if L = 1 then [wOr] else if L = 2 then [wAnd] else if L = 4 then cmpOps else if L = 5 then [wPlus, wMinus] else [wStar]
theorem operators_any (L : Nat) (hL : L = 1 ∨ L = 2 ∨ L = 4 ∨ L = 5) (W : World) : Calls Tryz.prog 134 #[.int .i64 L] W (fun e W' => ∃ g : Nat, e = .returned (.slice (some ⟨g, 0, none⟩) (opsL L).length (opsL L).length) ∧ SR W' g (opsL L) ∧ Ext W W') := by
 rcases hL with rfl | rfl | rfl | rfl
 ·have hsr := SR.new W (opsL 1) #[.string ⟨#[111, 114]⟩] rfl
  have HSR := Lib.hid hsr
  clear hsr
  go_enter Tryz.func134, Tryz.ntmps134
  go_wp2
  go_ret
  exact ⟨_, rfl, HSR.out, (Ext.refl _).alloc _⟩
 ·have hsr := SR.new W (opsL 2) #[.string ⟨#[97, 110, 100]⟩] rfl
  have HSR := Lib.hid hsr
  clear hsr
  go_enter Tryz.func134, Tryz.ntmps134
  go_wp2
  go_ret
  exact ⟨_, rfl, HSR.out, (Ext.refl _).alloc _⟩
 ·have hsr := SR.new W (opsL 4) #[.string ⟨#[60]⟩, .string ⟨#[60, 61]⟩, .string ⟨#[61]⟩, .string ⟨#[33, 61]⟩, .string ⟨#[62]⟩, .string ⟨#[62, 61]⟩] rfl
  have HSR := Lib.hid hsr
  clear hsr
  go_enter Tryz.func134, Tryz.ntmps134
  go_wp2
  go_ret
  exact ⟨_, rfl, HSR.out, (Ext.refl _).alloc _⟩
 ·have hsr := SR.new W (opsL 5) #[.string ⟨#[43]⟩, .string ⟨#[45]⟩] rfl
  have HSR := Lib.hid hsr
  clear hsr
  go_enter Tryz.func134, Tryz.ntmps134
  go_wp2
  go_ret
  exact ⟨_, rfl, HSR.out, (Ext.refl _).alloc _⟩
theorem lv_mem {s : List UInt8} (h : 1 ≤ lvOf s) : s ∈ opl := by
 unfold lvOf at h
 split at h
 ·rename_i e; rw [e]; decide
 split at h
 ·rename_i e; rw [e]; decide
 split at h
 ·rename_i e; exact (by decide : ∀ s ∈ cmpOps, s ∈ opl) s e
 split at h
 ·rename_i e; rcases e with e | e <;> rw [e] <;> decide
 split at h
 ·rename_i e; rw [e]; decide
 ·omega
theorem ops_iff : ∀ s ∈ opl, ∀ i ∈ [1, 2, 4, 5], decide (s ∈ opsL i) = decide (lvOf s = i) := by decide
def LvRel (W : World) (L : Nat) (s3 : Value) (X : World) : Prop := ∃ i : Nat, 1 ≤ i ∧ i ≤ L ∧ s3 = .int .i64 i ∧ Ext W X
set_option maxHeartbeats 2000000 in
set_option maxRecDepth 100000 in
theorem level_any (t : Tr) (d : Nd) (P : Nat → Prop) (W : World) (ht : GT t) (h : Rep W P d t) : Calls Tryz.prog 110 #[.agg #[.int .i64 d.k, .int .i64 d.n, .string d.s, .slice d.A d.m d.c]] W (fun e W' => e = .returned (.int .i64 (lvT t : Nat)) ∧ Ext W W') := by
 obtain ⟨k, n, s, ks⟩ := t
 obtain ⟨e1, e2, e3, e4⟩ := h.fields
 obtain ⟨dk, dn, ds, dA, dm, dc⟩ := d
 simp only at e1 e2 e3 e4 ⊢
 subst e1 e2
 clear h e4
 have hx0 : Ext W (W.alloc (.cells #[.int .i64 dk, .int .i64 dn, .string ds, .slice dA dm dc] 31)) := (Ext.refl W).alloc _
 have hna : NX (W.alloc (.cells #[.int .i64 dk, .int .i64 dn, .string ds, .slice dA dm dc] 31)) W.heap.size dk dn ds (.slice dA dm dc) := heap_alloc_new _ _
 have leaf : ∀ (_ : dk = 1 ∨ dk = 2 ∨ dk = 3 ∨ dk = 4 ∨ dk = 9 ∨ dk = 10), Calls Tryz.prog 110 #[.agg #[.int .i64 dk, .int .i64 dn, .string ds, .slice dA dm dc]] W (fun e W' => e = .returned (.int .i64 (lvT (.nd dk dn s ks) : Nat)) ∧ Ext W W') := by
  intro hk
  have HV := Lib.hid (show lvT (.nd dk dn s ks) = 8 by rw [lvT, lvN_top _ (by omega)])
  have HX := Lib.hid hx0
  clear ht e3
  rcases hk with rfl | rfl | rfl | rfl | rfl | rfl
  all_goals
   go_enter Tryz.func110, Tryz.ntmps110
   go_wp2
   go_ret
   exact ⟨ret_int (by rw [HV.out]; rfl), HX.out⟩
 have aft : ∀ (_ : dk = 7 ∨ dk = 8), Calls Tryz.prog 110 #[.agg #[.int .i64 dk, .int .i64 dn, .string ds, .slice dA dm dc]] W (fun e W' => e = .returned (.int .i64 (lvT (.nd dk dn s ks) : Nat)) ∧ Ext W W') := by
  intro hk
  have HV := Lib.hid (show lvT (.nd dk dn s ks) = 5 by rw [lvT, lvN78 _ hk])
  have HX := Lib.hid hx0
  clear ht leaf e3
  rcases hk with rfl | rfl
  all_goals
   go_enter Tryz.func110, Tryz.ntmps110
   go_wp2
   go_ret
   exact ⟨ret_int (by rw [HV.out]; rfl), HX.out⟩
 cases ht with
 | num n h => exact leaf (by omega)
 | bool n h => exact leaf (by omega)
 | day n h => exact leaf (by omega)
 | field s h => exact leaf (by omega)
 | ite a b c ha hb hc => exact leaf (by omega)
 | call1 s a h hs ha => exact leaf (by omega)
 | call2 s a b h hs ha hb => exact leaf (by omega)
 | aft k s a b hk h ha hb => exact aft hk
 | una s a h ha =>
  clear leaf aft
  have HX := Lib.hid hx0
  obtain ⟨q, hq⟩ : ∃ q, q = (ds.toList == [110, 111, 116]) := ⟨_, rfl⟩
  have t1 := hq.symm
  have HV := Lib.hid (show lvT (.nd 5 0 s [a]) = if q = true then 3 else 7 from by
   rw [lvT, lvN5, hq, e3, bs_list]
   by_cases hs : s = wNot
   ·rw [if_pos hs, if_pos (by rw [hs]; rfl)]
   ·rw [if_neg hs, if_neg (fun h => hs (by simpa [wNot] using h))])
  clear hq e3 hx0 hna
  cases q
  ·go_enter Tryz.func110, Tryz.ntmps110
   go_wp2
   go_ret
   exact ⟨ret_int (by rw [HV.out]; rfl), HX.out⟩
  ·go_enter Tryz.func110, Tryz.ntmps110
   go_wp2
   go_ret
   exact ⟨ret_int (by rw [HV.out]; rfl), HX.out⟩
 | bin s a b hs ha hb =>
  clear leaf aft
  have HI := Lib.hid (fun i hi => ops_iff s (lv_mem hs) i hi)
  have HL3 := Lib.hid (lvOf_cases s)
  have HL6 := lvOf_le s
  have HV := Lib.hid (show lvT (.nd 6 0 s [a, b]) = lvOf s from by rw [lvT, lvN6])
  have HE3 := Lib.hid e3
  obtain ⟨L, hL⟩ : ∃ L, L = lvOf s := ⟨_, rfl⟩
  rw [← hL] at HL3 HL6 hs HV
  have HLL := Lib.hid hL
  clear hL e3
  go_enter Tryz.func110, Tryz.ntmps110
  go_upto_region 10 with (fail)
  have HX := Lib.hid hx0
  have HNX := Lib.hid hna
  generalize W.alloc (.cells #[.int .i64 6, .int .i64 0, .string ds, .slice dA dm dc] 31) = w1 at *
  generalize W.heap.size = g at *
  clear hx0 hna
  go_wp2_with fail
  go_loopw [3] (fun s3 X => LvRel w1 L s3 X) (fun s3 _ => toM 7 s3)
  case atStart => exact ⟨1, by omega, hs, rfl, Ext.refl _⟩
  case round =>
   obtain ⟨i, hi1, hiL, rfl, hx⟩ := hrel
   have HXR := Lib.hid hx
   obtain ⟨_, k0, k1, k2, k3, _, _, _, _⟩ := (HNX.out.mv (b := g + 1) (Mv.of_ext hx) (by omega)).nb
   have HQ := Lib.hid (fun X (hX : Ext wr X) => cells_ext k2 hX)
   clear hx
   by_cases h6 : i = 6
   ·subst h6
    obtain rfl : L = 6 := by omega
    go_wp2
    go_ret
    exact ⟨ret_int (by rw [HV.out]; rfl), HX.out.trans HXR.out⟩
   rcases (by omega : i = 1 ∨ i = 2 ∨ i = 3 ∨ i = 4 ∨ i = 5) with rfl | rfl | rfl | rfl | rfl
   ·have hgl : g < wr.heap.size := by assumption
    have HB := Lib.hid (show decide (s ∈ opsL 1) = decide (L = 1) by rw [HI.out 1 (by decide), ← HLL.out])
    by_cases hLi : L = 1
    ·have HBB := Lib.hid (HB.out.trans (decide_eq_true hLi))
     go_wp2
     have hcur : Ext wr wr.drew := (Ext.refl _).drew
     have HAM := Lib.hid (fun gr c X (hsr : SR X gr (opsL 1)) => (show Calls Tryz.prog 146 #[.slice (some ⟨gr, 0, none⟩) (opsL 1).length c, .string ds] X (BQ2 true X) from by have h9 := among_any (opsL 1) gr c s ds HE3.out X hsr (by decide); rw [HBB.out] at h9; exact h9))
     go_region_held3 (fun X => X.cell? ⟨g, 2, none⟩ = some (.string ds)) (first | exact HQ.out _ hcur | go_keep)
      (first
       | (go_at_call 134; refine (operators_any 1 (by decide) _).mono ?_; rintro e wn ⟨gr, rfl, hsr, hx⟩; have hcur := hcur.trans hx; clear hx)
       | (go_at_call 146; refine (HAM.out _ _ _ hsr).mono ?_; rintro e wn ⟨rfl, hx⟩; have hcur := hcur.trans hx; clear hx))
     go_wp2
     go_ret
     exact ⟨ret_int (by rw [HV.out, hLi]; rfl), HX.out.trans (HXR.out.trans hcur)⟩
    ·have HBB := Lib.hid (HB.out.trans (decide_eq_false hLi))
     go_wp2
     have hcur : Ext wr wr.drew := (Ext.refl _).drew
     have HAM := Lib.hid (fun gr c X (hsr : SR X gr (opsL 1)) => (show Calls Tryz.prog 146 #[.slice (some ⟨gr, 0, none⟩) (opsL 1).length c, .string ds] X (BQ2 false X) from by have h9 := among_any (opsL 1) gr c s ds HE3.out X hsr (by decide); rw [HBB.out] at h9; exact h9))
     go_region_held3 (fun X => X.cell? ⟨g, 2, none⟩ = some (.string ds)) (first | exact HQ.out _ hcur | go_keep)
      (first
       | (go_at_call 134; refine (operators_any 1 (by decide) _).mono ?_; rintro e wn ⟨gr, rfl, hsr, hx⟩; have hcur := hcur.trans hx; clear hx)
       | (go_at_call 146; refine (HAM.out _ _ _ hsr).mono ?_; rintro e wn ⟨rfl, hx⟩; have hcur := hcur.trans hx; clear hx))
     go_wp2
     exact ⟨⟨2, by omega, by omega, rfl, HXR.out.trans hcur⟩, by simp [toM]⟩
   ·have hgl : g < wr.heap.size := by assumption
    have HB := Lib.hid (show decide (s ∈ opsL 2) = decide (L = 2) by rw [HI.out 2 (by decide), ← HLL.out])
    by_cases hLi : L = 2
    ·have HBB := Lib.hid (HB.out.trans (decide_eq_true hLi))
     go_wp2
     have hcur : Ext wr wr.drew := (Ext.refl _).drew
     have HAM := Lib.hid (fun gr c X (hsr : SR X gr (opsL 2)) => (show Calls Tryz.prog 146 #[.slice (some ⟨gr, 0, none⟩) (opsL 2).length c, .string ds] X (BQ2 true X) from by have h9 := among_any (opsL 2) gr c s ds HE3.out X hsr (by decide); rw [HBB.out] at h9; exact h9))
     go_region_held3 (fun X => X.cell? ⟨g, 2, none⟩ = some (.string ds)) (first | exact HQ.out _ hcur | go_keep)
      (first
       | (go_at_call 134; refine (operators_any 2 (by decide) _).mono ?_; rintro e wn ⟨gr, rfl, hsr, hx⟩; have hcur := hcur.trans hx; clear hx)
       | (go_at_call 146; refine (HAM.out _ _ _ hsr).mono ?_; rintro e wn ⟨rfl, hx⟩; have hcur := hcur.trans hx; clear hx))
     go_wp2
     go_ret
     exact ⟨ret_int (by rw [HV.out, hLi]; rfl), HX.out.trans (HXR.out.trans hcur)⟩
    ·have HBB := Lib.hid (HB.out.trans (decide_eq_false hLi))
     go_wp2
     have hcur : Ext wr wr.drew := (Ext.refl _).drew
     have HAM := Lib.hid (fun gr c X (hsr : SR X gr (opsL 2)) => (show Calls Tryz.prog 146 #[.slice (some ⟨gr, 0, none⟩) (opsL 2).length c, .string ds] X (BQ2 false X) from by have h9 := among_any (opsL 2) gr c s ds HE3.out X hsr (by decide); rw [HBB.out] at h9; exact h9))
     go_region_held3 (fun X => X.cell? ⟨g, 2, none⟩ = some (.string ds)) (first | exact HQ.out _ hcur | go_keep)
      (first
       | (go_at_call 134; refine (operators_any 2 (by decide) _).mono ?_; rintro e wn ⟨gr, rfl, hsr, hx⟩; have hcur := hcur.trans hx; clear hx)
       | (go_at_call 146; refine (HAM.out _ _ _ hsr).mono ?_; rintro e wn ⟨rfl, hx⟩; have hcur := hcur.trans hx; clear hx))
     go_wp2
     exact ⟨⟨3, by omega, by omega, rfl, HXR.out.trans hcur⟩, by simp [toM]⟩
   ·have h3 := HL3.out
    go_wp2
    go_quiet (fail)
    go_wp2
    exact ⟨⟨4, by omega, by omega, rfl, HXR.out.trans ((Ext.refl _).drewN _)⟩, by simp [toM]⟩
   ·have hgl : g < wr.heap.size := by assumption
    have HB := Lib.hid (show decide (s ∈ opsL 4) = decide (L = 4) by rw [HI.out 4 (by decide), ← HLL.out])
    by_cases hLi : L = 4
    ·have HBB := Lib.hid (HB.out.trans (decide_eq_true hLi))
     go_wp2
     have hcur : Ext wr wr.drew := (Ext.refl _).drew
     have HAM := Lib.hid (fun gr c X (hsr : SR X gr (opsL 4)) => (show Calls Tryz.prog 146 #[.slice (some ⟨gr, 0, none⟩) (opsL 4).length c, .string ds] X (BQ2 true X) from by have h9 := among_any (opsL 4) gr c s ds HE3.out X hsr (by decide); rw [HBB.out] at h9; exact h9))
     go_region_held3 (fun X => X.cell? ⟨g, 2, none⟩ = some (.string ds)) (first | exact HQ.out _ hcur | go_keep)
      (first
       | (go_at_call 134; refine (operators_any 4 (by decide) _).mono ?_; rintro e wn ⟨gr, rfl, hsr, hx⟩; have hcur := hcur.trans hx; clear hx)
       | (go_at_call 146; refine (HAM.out _ _ _ hsr).mono ?_; rintro e wn ⟨rfl, hx⟩; have hcur := hcur.trans hx; clear hx))
     go_wp2
     go_ret
     exact ⟨ret_int (by rw [HV.out, hLi]; rfl), HX.out.trans (HXR.out.trans hcur)⟩
    ·have HBB := Lib.hid (HB.out.trans (decide_eq_false hLi))
     go_wp2
     have hcur : Ext wr wr.drew := (Ext.refl _).drew
     have HAM := Lib.hid (fun gr c X (hsr : SR X gr (opsL 4)) => (show Calls Tryz.prog 146 #[.slice (some ⟨gr, 0, none⟩) (opsL 4).length c, .string ds] X (BQ2 false X) from by have h9 := among_any (opsL 4) gr c s ds HE3.out X hsr (by decide); rw [HBB.out] at h9; exact h9))
     go_region_held3 (fun X => X.cell? ⟨g, 2, none⟩ = some (.string ds)) (first | exact HQ.out _ hcur | go_keep)
      (first
       | (go_at_call 134; refine (operators_any 4 (by decide) _).mono ?_; rintro e wn ⟨gr, rfl, hsr, hx⟩; have hcur := hcur.trans hx; clear hx)
       | (go_at_call 146; refine (HAM.out _ _ _ hsr).mono ?_; rintro e wn ⟨rfl, hx⟩; have hcur := hcur.trans hx; clear hx))
     go_wp2
     exact ⟨⟨5, by omega, by omega, rfl, HXR.out.trans hcur⟩, by simp [toM]⟩
   ·have hgl : g < wr.heap.size := by assumption
    have HB := Lib.hid (show decide (s ∈ opsL 5) = decide (L = 5) by rw [HI.out 5 (by decide), ← HLL.out])
    by_cases hLi : L = 5
    ·have HBB := Lib.hid (HB.out.trans (decide_eq_true hLi))
     go_wp2
     have hcur : Ext wr wr.drew := (Ext.refl _).drew
     have HAM := Lib.hid (fun gr c X (hsr : SR X gr (opsL 5)) => (show Calls Tryz.prog 146 #[.slice (some ⟨gr, 0, none⟩) (opsL 5).length c, .string ds] X (BQ2 true X) from by have h9 := among_any (opsL 5) gr c s ds HE3.out X hsr (by decide); rw [HBB.out] at h9; exact h9))
     go_region_held3 (fun X => X.cell? ⟨g, 2, none⟩ = some (.string ds)) (first | exact HQ.out _ hcur | go_keep)
      (first
       | (go_at_call 134; refine (operators_any 5 (by decide) _).mono ?_; rintro e wn ⟨gr, rfl, hsr, hx⟩; have hcur := hcur.trans hx; clear hx)
       | (go_at_call 146; refine (HAM.out _ _ _ hsr).mono ?_; rintro e wn ⟨rfl, hx⟩; have hcur := hcur.trans hx; clear hx))
     go_wp2
     go_ret
     exact ⟨ret_int (by rw [HV.out, hLi]; rfl), HX.out.trans (HXR.out.trans hcur)⟩
    ·have HBB := Lib.hid (HB.out.trans (decide_eq_false hLi))
     go_wp2
     have hcur : Ext wr wr.drew := (Ext.refl _).drew
     have HAM := Lib.hid (fun gr c X (hsr : SR X gr (opsL 5)) => (show Calls Tryz.prog 146 #[.slice (some ⟨gr, 0, none⟩) (opsL 5).length c, .string ds] X (BQ2 false X) from by have h9 := among_any (opsL 5) gr c s ds HE3.out X hsr (by decide); rw [HBB.out] at h9; exact h9))
     go_region_held3 (fun X => X.cell? ⟨g, 2, none⟩ = some (.string ds)) (first | exact HQ.out _ hcur | go_keep)
      (first
       | (go_at_call 134; refine (operators_any 5 (by decide) _).mono ?_; rintro e wn ⟨gr, rfl, hsr, hx⟩; have hcur := hcur.trans hx; clear hx)
       | (go_at_call 146; refine (HAM.out _ _ _ hsr).mono ?_; rintro e wn ⟨rfl, hx⟩; have hcur := hcur.trans hx; clear hx))
     go_wp2
     exact ⟨⟨6, by omega, by omega, rfl, HXR.out.trans hcur⟩, by simp [toM]⟩
end Go.Proofs.YtnpenepdechkjaaGreatDoor
