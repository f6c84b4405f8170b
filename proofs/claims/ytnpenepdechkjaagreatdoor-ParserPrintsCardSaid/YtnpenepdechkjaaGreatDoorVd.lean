/- The reference's operand, binary, Show. -/
import Derived.Test.YtnpenepdechkjaaGreatDoorVc
namespace Go.Proofs.YtnpenepdechkjaaGreatDoor
open Go Go.RowKit

/-- What is known of the reference's Show at smaller trees. -/
def RSC (M : Nat) : Prop := ∀ (t : Tr) (d : Nd) (P : Nat → Prop) (W : World), tsz t < M → GT t → shB t ≤ 10000000 → Rep W P d t → Tab W →
 Calls Tryz.prog 27 #[.agg #[.int .i64 d.k, .int .i64 d.n, .string d.s, .slice d.A d.m d.c]] W (StrPost (showT t) W)
set_option maxRecDepth 100000 in
theorem rop_any {M : Nat} (hS : RSC M) (t : Tr) (d : Nd) (P : Nat → Prop) (W : World) (ht : tsz t < M) (hg : GT t) (hb : shB t ≤ 10000000) (hr : Rep W P d t) (htab : Tab W) (least : Nat) (_hl : least ≤ 10) :
  Calls Tryz.prog 60 #[.agg #[.int .i64 d.k, .int .i64 d.n, .string d.s, .slice d.A d.m d.c], .int .i64 (least : Nat)] W (StrPost (opL (lvT t) least (showT t)) W) := by
 have HL := Lib.hid (fun X (hX : Ext W X) => level_any t d P X hg (hr.ext hX))
 have HS := Lib.hid (fun X (hX : Ext W X) => hS t d P X ht hg hb (hr.ext hX) (htab.ext hX))
 have hlen := showT_len hg
 have hlv : lvT t ≤ 8 := by cases t; exact lvN_le _ _
 obtain ⟨S, hSS⟩ : ∃ S, S = bs (showT t) := ⟨_, rfl⟩
 have hsz : S.size ≤ 10000000 := by rw [hSS, bs_size]; omega
 unfold StrPost at HS
 rw [show (⟨(showT t).toArray⟩ : ByteArray) = S from hSS.symm] at HS
 obtain ⟨x, hx⟩ : ∃ x, x = showT t := ⟨_, rfl⟩
 rw [← hx] at hSS ⊢
 have HSS := Lib.hid hSS
 obtain ⟨l, hle⟩ : ∃ l, l = lvT t := ⟨_, rfl⟩
 rw [← hle] at HL hlv ⊢
 obtain ⟨dk, dn, ds, dA, dm, dc⟩ := d
 have hx0 : Ext W (W.alloc (.cells #[.int .i64 dk, .int .i64 dn, .string ds, .slice dA dm dc] 31)) := (Ext.refl W).alloc _
 have hna : NX (W.alloc (.cells #[.int .i64 dk, .int .i64 dn, .string ds, .slice dA dm dc] 31)) W.heap.size dk dn ds (.slice dA dm dc) := heap_alloc_new _ _
 have HX0 := Lib.hid hx0
 have HNA := Lib.hid hna
 unfold opL
 by_cases hlt : l < least
 ·have hI : (l : Int) < (least : Int) := by omega
  have q1 : ¬ 9223372036854775807 < 1 + S.size := by omega
  have q2 : ¬ 9223372036854775807 < 1 + S.size + 1 := by omega
  rw [if_pos hlt]
  have HF := Lib.hid (show (⟨#[40]⟩ : ByteArray) ++ S ++ ⟨#[41]⟩ = bs (40 :: (x ++ [41])) from by
   rw [HSS.out, show (⟨#[40]⟩ : ByteArray) = bs [40] from rfl, show (⟨#[41]⟩ : ByteArray) = bs [41] from rfl, bs_app, bs_app]; rfl)
  clear hr hS hlen hSS hx hle hx0 hna hlt hg
  go_enter Tryz.func60, Tryz.ntmps60
  go_wp2_with (first
   | (go_at_call 110; refine (HL.out _ HX0.out).mono ?_; rintro e w1 ⟨rfl, hx1⟩; obtain ⟨_, k0, k1, k2, k3, _, _, _, _⟩ := (NX.mv (b := W.heap.size + 1) HNA.out (Mv.of_ext hx1) (by omega)).nb; have HX1 := Lib.hid hx1; clear hx1)
   | (go_at_call 27; refine (HS.out _ (HX0.out.trans HX1.out)).mono ?_; rintro e w2 ⟨rfl, hx2⟩))
  go_ret
  exact ⟨congrArg (fun z => Ending.returned (.string z)) HF.out, (HX0.out.trans HX1.out).trans hx2⟩
 ·have hI : ¬ (l : Int) < (least : Int) := by omega
  rw [if_neg hlt]
  clear hr hS hlen hSS hx hle hx0 hna hlt hg
  go_enter Tryz.func60, Tryz.ntmps60
  go_wp2_with (first
   | (go_at_call 110; refine (HL.out _ HX0.out).mono ?_; rintro e w1 ⟨rfl, hx1⟩; obtain ⟨_, k0, k1, k2, k3, _, _, _, _⟩ := (NX.mv (b := W.heap.size + 1) HNA.out (Mv.of_ext hx1) (by omega)).nb; have HX1 := Lib.hid hx1; clear hx1)
   | (go_at_call 27; refine (HS.out _ (HX0.out.trans HX1.out)).mono ?_; rintro e w2 ⟨rfl, hx2⟩))
  go_ret
  exact ⟨congrArg (fun z => Ending.returned (.string z)) HSS.out, (HX0.out.trans HX1.out).trans hx2⟩
set_option maxHeartbeats 2000000 in
set_option maxRecDepth 100000 in
theorem rbin_any {M : Nat} (hS : RSC M) (k : Int) (s : List UInt8) (a b : Tr) (d : Nd) (P : Nat → Prop) (W : World) (ht : tsz (.nd k 0 s [a, b]) < M + 1) (hk : k = 6 ∨ k = 7 ∨ k = 8) (hg : GT (.nd k 0 s [a, b])) (hga : GT a) (hgb : GT b) (hsl : s.length ≤ 12) (hb : shB (.nd k 0 s [a, b]) ≤ 10000000) (hr : Rep W P d (.nd k 0 s [a, b])) (htab : Tab W) :
  Calls Tryz.prog 61 #[.agg #[.int .i64 d.k, .int .i64 d.n, .string d.s, .slice d.A d.m d.c]] W (StrPost (showT (.nd k 0 s [a, b])) W) := by
 have HTB := Lib.hid htab
 have HS := Lib.hid hS
 have HL := Lib.hid (fun X (hX : Ext W X) => level_any _ d P X hg (hr.ext hX))
 have hlv : lvT (.nd k 0 s [a, b]) ≤ 6 := by
  rcases hk with rfl | rfl | rfl
  ·rw [lvT, lvN6]; exact lvOf_le s
  ·rw [lvT, lvN78 _ (.inl rfl)]; decide
  ·rw [lvT, lvN78 _ (.inr rfl)]; decide
 obtain ⟨LV, hLV⟩ : ∃ L, L = lvT (.nd k 0 s [a, b]) := ⟨_, rfl⟩
 have HSH := Lib.hid (show showT (.nd k 0 s [a, b]) = (if k = 6 then opL (lvT a) (leftL LV) (showT a) ++ [32] ++ s ++ [32] ++ opL (lvT b) (LV + 1) (showT b) else if k = 7 then opL (lvT a) (leftL LV) (showT a) ++ [32, 43, 32] ++ opL (lvT b) (LV + 1) (showT b) ++ [32] ++ s else opL (lvT a) (leftL LV) (showT a) ++ [32, 45, 32] ++ opL (lvT b) (LV + 1) (showT b) ++ [32] ++ s) from by
  rcases hk with rfl | rfl | rfl
  ·rw [hLV, lvT, lvN6, sh_bin]; rfl
  ·rw [hLV, lvT, lvN78 _ (.inl rfl), sh_aft]; rfl
  ·rw [hLV, lvT, lvN78 _ (.inr rfl), sh_bef]; rfl)
 rw [← hLV] at HL hlv
 rw [HSH.out]
 simp only [tsz, tszs] at ht
 simp only [shB, shBs] at hb
 clear htab hS hLV hg HSH
 obtain ⟨e1, e2, e3, e4⟩ := hr.fields
 simp only [List.length_cons, List.length_nil, Nat.zero_add] at e4
 have HR := Lib.hid hr
 obtain ⟨dk, dn, ds, dA, dm, dc⟩ := d
 simp only at e1 e2 e3 e4 HL ⊢
 subst e1 e2 e4
 clear hr
 have hx0 : Ext W (W.alloc (.cells #[.int .i64 dk, .int .i64 0, .string ds, .slice dA 2 dc] 31)) := (Ext.refl W).alloc _
 have hna : NX (W.alloc (.cells #[.int .i64 dk, .int .i64 0, .string ds, .slice dA 2 dc] 31)) W.heap.size dk 0 ds (.slice dA 2 dc) := heap_alloc_new _ _
 have HX0 := Lib.hid hx0
 have HNA := Lib.hid hna
 clear hx0 hna
 obtain ⟨g0, off0, d0, hA0, hrp0, hc0⟩ := kid_at HR.out 0 a rfl
 obtain ⟨g1, off1, d1, hA1, hrp1, hc1⟩ := kid_at HR.out 1 b rfl
 simp only at hA0 hA1
 obtain ⟨rfl, rfl⟩ : g0 = g1 ∧ off0 = off1 := by rw [hA0] at hA1; injection hA1 with hA1; injection hA1 with h8 h9 _; exact ⟨h8, h9⟩
 subst hA0
 have HC0 := Lib.hid hc0
 have hla0 := showT_len (t := a) (by assumption)
 have HC1 := Lib.hid hc1
 have hla1 := showT_len (t := b) (by assumption)
 clear hc0 hc1 hA1
 obtain ⟨lf, hlf⟩ : ∃ l, l = leftL LV := ⟨_, rfl⟩
 have hlf8 : lf ≤ 7 := by rw [hlf]; have := (leftL_le LV).2.1; omega
 have ho0 := fun X (hX : Ext W X) => (show Calls Tryz.prog 60 #[.agg #[.int .i64 d0.k, .int .i64 d0.n, .string d0.s, .slice d0.A d0.m d0.c], .int .i64 ((lf : Nat) : Int)] X (StrPost (opL (lvT a) lf (showT a)) X) from rop_any HS.out a d0 P X (by omega) (by assumption) (by omega) (hrp0.ext hX) (HTB.out.ext hX) lf (by omega))
 have ho1 := fun X (hX : Ext W X) => (show Calls Tryz.prog 60 #[.agg #[.int .i64 d1.k, .int .i64 d1.n, .string d1.s, .slice d1.A d1.m d1.c], .int .i64 ((LV : Int) + 1)] X (StrPost (opL (lvT b) (LV + 1) (showT b)) X) from rop_any HS.out b d1 P X (by omega) (by assumption) (by omega) (hrp1.ext hX) (HTB.out.ext hX) (LV + 1) (by omega))
 unfold StrPost at ho0 ho1
 rw [← hlf]
 obtain ⟨xa, hxa⟩ : ∃ x, x = opL (lvT a) lf (showT a) := ⟨_, rfl⟩
 obtain ⟨xb, hxb⟩ : ∃ x, x = opL (lvT b) (LV + 1) (showT b) := ⟨_, rfl⟩
 obtain ⟨SA, hSA⟩ : ∃ S, S = bs xa := ⟨_, rfl⟩
 obtain ⟨SB, hSB⟩ : ∃ S, S = bs xb := ⟨_, rfl⟩
 rw [← hxa, show (⟨xa.toArray⟩ : ByteArray) = SA from hSA.symm] at ho0
 rw [← hxb, show (⟨xb.toArray⟩ : ByteArray) = SB from hSB.symm] at ho1
 have hla2 := opL_len (lvT a) lf (showT a)
 have hlb2 := opL_len (lvT b) (LV + 1) (showT b)
 rw [← hxa] at hla2 ⊢
 rw [← hxb] at hlb2 ⊢
 have zA : SA.size = xa.length := by rw [hSA, bs_size]
 have zB : SB.size = xb.length := by rw [hSB, bs_size]
 have zd : ds.size = s.length := by rw [e3, bs_size]
 have HO0 := Lib.hid ho0
 have HO1 := Lib.hid ho1
 have HL4 := Lib.hid (show lf = if LV = 4 then 5 else LV from hlf)
 have HF6 := Lib.hid (show SA ++ ⟨#[32]⟩ ++ ds ++ ⟨#[32]⟩ ++ SB = bs (xa ++ [32] ++ s ++ [32] ++ xb) from by rw [hSA, hSB, e3, show (⟨#[32]⟩ : ByteArray) = bs [32] from rfl, bs_app, bs_app, bs_app, bs_app])
 have HF7 := Lib.hid (show SA ++ ⟨#[32, 43, 32]⟩ ++ SB ++ ⟨#[32]⟩ ++ ds = bs (xa ++ [32, 43, 32] ++ xb ++ [32] ++ s) from by rw [hSA, hSB, e3, show (⟨#[32, 43, 32]⟩ : ByteArray) = bs [32, 43, 32] from rfl, show (⟨#[32]⟩ : ByteArray) = bs [32] from rfl, bs_app, bs_app, bs_app, bs_app])
 have HF8 := Lib.hid (show SA ++ ⟨#[32, 45, 32]⟩ ++ SB ++ ⟨#[32]⟩ ++ ds = bs (xa ++ [32, 45, 32] ++ xb ++ [32] ++ s) from by rw [hSA, hSB, e3, show (⟨#[32, 45, 32]⟩ : ByteArray) = bs [32, 45, 32] from rfl, show (⟨#[32]⟩ : ByteArray) = bs [32] from rfl, bs_app, bs_app, bs_app, bs_app])
 have za : SA.size ≤ 10000002 := by omega
 have zb : SB.size ≤ 10000002 := by omega
 have zs : ds.size ≤ 12 := by omega
 have hlvI : (LV : Int) ≤ 6 := by omega
 have q0 : ¬ 9223372036854775807 < SA.size + 1 := by omega
 have q1 : ¬ 9223372036854775807 < SA.size + 1 + ds.size := by omega
 have q2 : ¬ 9223372036854775807 < SA.size + 1 + ds.size + 1 := by omega
 have q3 : ¬ 9223372036854775807 < SA.size + 1 + ds.size + 1 + SB.size := by omega
 have r0 : ¬ 9223372036854775807 < SA.size + 3 := by omega
 have r1 : ¬ 9223372036854775807 < SA.size + 3 + SB.size := by omega
 have r2 : ¬ 9223372036854775807 < SA.size + 3 + SB.size + 1 := by omega
 have r3 : ¬ 9223372036854775807 < SA.size + 3 + SB.size + 1 + ds.size := by omega
 clear e3 ht hb hla0 hla1 hla2 hlb2 ho0 ho1 hxa hxb hSA hSB zA zB zd hrp0 hrp1 hsl hlf hga hgb
 go_enter Tryz.func61, Tryz.ntmps61
 go_upto_region 2 with (first | (go_at_call 110; refine (HL.out _ HX0.out).mono ?_; rintro e w1 ⟨rfl, hx1⟩; have HX1 := Lib.hid (HX0.out.trans hx1); have HN1 := Lib.hid (NX.mv (b := W.heap.size + 1) HNA.out (Mv.of_ext hx1) (by omega)); clear hx1))
 by_cases h4 : LV = 4
 ·have t4 : ((LV : Int) == 4) = true := by rw [beq_iff_eq]; omega
  obtain rfl : lf = 5 := by rw [HL4.out, if_pos h4]
  clear h4
  go_upto_region 5 with (fail)
  obtain ⟨_, k0, k1, k2, k3, _, _, _, _⟩ := HN1.out.nb
  obtain ⟨p0, p1, p2, p3⟩ := HC0.out _ HX1.out
  simp only [Nat.zero_mul, Nat.add_zero] at p0 p1 p2 p3
  go_upto_region 6 with (first | (go_at_call 60; refine (HO0.out _ HX1.out).mono ?_; rintro e w2 ⟨rfl, hx2⟩; have HX2 := Lib.hid (HX1.out.trans hx2); have HN2 := Lib.hid (HN1.out.mv (b := W.heap.size + 1) (Mv.of_ext hx2) (by omega)); clear hx2))
  clear k0 k1 k2 k3 p0 p1 p2 p3
  obtain ⟨_, k0, k1, k2, k3, _, _, _, _⟩ := HN2.out.nb
  obtain ⟨p0, p1, p2, p3⟩ := HC1.out _ HX2.out
  simp only [Nat.one_mul] at p0 p1 p2 p3
  go_upto_region 7 with (first | (go_at_call 60; refine (HO1.out _ HX2.out).mono ?_; rintro e w3 ⟨rfl, hx3⟩; have HX3 := Lib.hid (HX2.out.trans hx3); have HN3 := Lib.hid (HN2.out.mv (b := W.heap.size + 1) (Mv.of_ext hx3) (by omega)); clear hx3))
  clear k0 k1 k2 k3 p0 p1 p2 p3
  obtain ⟨_, k0, k1, k2, k3, _, _, _, _⟩ := HN3.out.nb
  rcases hk with rfl | rfl | rfl
  ·rw [if_pos rfl]
   go_wp2
   go_ret
   exact ⟨congrArg (fun z => Ending.returned (.string z)) (HF6.out.trans (congrArg bs (by simp))), HX3.out⟩
  ·rw [if_neg (by decide), if_pos rfl]
   go_wp2
   go_ret
   exact ⟨congrArg (fun z => Ending.returned (.string z)) (HF7.out.trans (congrArg bs (by simp))), HX3.out⟩
  ·rw [if_neg (by decide), if_neg (by decide)]
   go_wp2
   go_ret
   exact ⟨congrArg (fun z => Ending.returned (.string z)) (HF8.out.trans (congrArg bs (by simp))), HX3.out⟩
 ·have t4 : ((LV : Int) == 4) = false := by rw [beq_eq_false_iff_ne]; omega
  obtain rfl : lf = LV := by rw [HL4.out, if_neg h4]
  clear h4
  go_upto_region 5 with (fail)
  obtain ⟨_, k0, k1, k2, k3, _, _, _, _⟩ := HN1.out.nb
  obtain ⟨p0, p1, p2, p3⟩ := HC0.out _ HX1.out
  simp only [Nat.zero_mul, Nat.add_zero] at p0 p1 p2 p3
  go_upto_region 6 with (first | (go_at_call 60; refine (HO0.out _ HX1.out).mono ?_; rintro e w2 ⟨rfl, hx2⟩; have HX2 := Lib.hid (HX1.out.trans hx2); have HN2 := Lib.hid (HN1.out.mv (b := W.heap.size + 1) (Mv.of_ext hx2) (by omega)); clear hx2))
  clear k0 k1 k2 k3 p0 p1 p2 p3
  obtain ⟨_, k0, k1, k2, k3, _, _, _, _⟩ := HN2.out.nb
  obtain ⟨p0, p1, p2, p3⟩ := HC1.out _ HX2.out
  simp only [Nat.one_mul] at p0 p1 p2 p3
  go_upto_region 7 with (first | (go_at_call 60; refine (HO1.out _ HX2.out).mono ?_; rintro e w3 ⟨rfl, hx3⟩; have HX3 := Lib.hid (HX2.out.trans hx3); have HN3 := Lib.hid (HN2.out.mv (b := W.heap.size + 1) (Mv.of_ext hx3) (by omega)); clear hx3))
  clear k0 k1 k2 k3 p0 p1 p2 p3
  obtain ⟨_, k0, k1, k2, k3, _, _, _, _⟩ := HN3.out.nb
  rcases hk with rfl | rfl | rfl
  ·rw [if_pos rfl]
   go_wp2
   go_ret
   exact ⟨congrArg (fun z => Ending.returned (.string z)) (HF6.out.trans (congrArg bs (by simp))), HX3.out⟩
  ·rw [if_neg (by decide), if_pos rfl]
   go_wp2
   go_ret
   exact ⟨congrArg (fun z => Ending.returned (.string z)) (HF7.out.trans (congrArg bs (by simp))), HX3.out⟩
  ·rw [if_neg (by decide), if_neg (by decide)]
   go_wp2
   go_ret
   exact ⟨congrArg (fun z => Ending.returned (.string z)) (HF8.out.trans (congrArg bs (by simp))), HX3.out⟩
/-- The arguments of a call, so far. -/
def jn (xs : List (List UInt8)) : Nat → List UInt8
 | 0 => []
 | i + 1 => jn xs i ++ (if 0 < i then [44, 32] else []) ++ xs.getD i []
theorem jn1 (x : List UInt8) : jn [x] 1 = Lib.join [x] [44, 32] := by simp [jn, Lib.join_cons, Lib.joinTail]
theorem jn2 (x y : List UInt8) : jn [x, y] 2 = Lib.join [x, y] [44, 32] := by simp [jn, Lib.join_cons, Lib.joinTail]
def RcRel (W : World) (s : List UInt8) (xs : List (List UInt8)) (s3 s4 : Value) (X : World) : Prop := ∃ i : Nat, i ≤ xs.length ∧ s3 = .string (bs (s ++ [40] ++ jn xs i)) ∧ s4 = .int .i64 i ∧ Ext W X
theorem rcall_any {M : Nat} (hS : RSC M) (s : List UInt8) (ks : List Tr) (d : Nd) (P : Nat → Prop) (W : World) (hk1 : 1 ≤ ks.length) (hk : ks.length ≤ 2) (ht : ∀ t ∈ ks, tsz t < M ∧ GT t ∧ shB t ≤ 10000000) (hsl : s.length ≤ 12) (hr : Rep W P d (.nd 10 0 s ks)) (htab : Tab W) (R : ByteArray) (hR : R = bs (s ++ [40] ++ jn (ks.map showT) ks.length ++ [41])) :
  Calls Tryz.prog 27 #[.agg #[.int .i64 d.k, .int .i64 d.n, .string d.s, .slice d.A d.m d.c]] W (fun e W' => e = .returned (.string R) ∧ Ext W W') := by
 have HTB := Lib.hid htab
 have HS := Lib.hid hS
 have HT := Lib.hid ht
 have HR := Lib.hid hr
 obtain ⟨e1, e2, e3, e4⟩ := hr.fields
 obtain ⟨dk, dn, ds, dA, dm, dc⟩ := d
 simp only at e1 e2 e3 e4 ⊢
 subst e1 e2 e4
 have HDS := Lib.hid e3
 have zs : ds.size ≤ 12 := by rw [e3, bs_size]; exact hsl
 have hx0 : Ext W (W.alloc (.cells #[.int .i64 10, .int .i64 0, .string ds, .slice dA ks.length dc] 31)) := (Ext.refl W).alloc _
 have hna : NX (W.alloc (.cells #[.int .i64 10, .int .i64 0, .string ds, .slice dA ks.length dc] 31)) W.heap.size 10 0 ds (.slice dA ks.length dc) := heap_alloc_new _ _
 have q0 : ¬ 9223372036854775807 < ds.size + 1 := by omega
 have HRR := Lib.hid hR
 clear e3 hS htab ht hr hR hsl
 go_enter Tryz.func27, Tryz.ntmps27
 go_upto_region 19 with (fail)
 have HX0 := Lib.hid hx0
 have HNA := Lib.hid hna
 generalize W.alloc (.cells #[.int .i64 10, .int .i64 0, .string ds, .slice dA ks.length dc] 31) = w1 at *
 generalize W.heap.size = g at *
 clear hx0 hna
 obtain ⟨_, k0, k1, k2, k3, _, _, _, _⟩ := HNA.out.nb
 have HST := Lib.hid (show RcRel w1 s (ks.map showT) (.string (ds ++ ⟨#[40]⟩)) (.int .i64 0) w1 from ⟨0, Nat.zero_le _, by rw [HDS.out, show (⟨#[40]⟩ : ByteArray) = bs [40] from rfl, bs_app]; simp [jn], rfl, Ext.refl _⟩)
 go_wp2_with fail
 clear k0 k1 k2 k3
 go_loopw [3, 4] (fun s3 s4 X => RcRel w1 s (ks.map showT) s3 s4 X) (fun _ s4 _ => toM ks.length s4)
 case atStart => exact HST.out
 case round =>
  clear HST
  obtain ⟨i, hi, rfl, rfl, hx⟩ := hrel
  rw [List.length_map] at hi
  have HXR := Lib.hid hx
  have HXW := Lib.hid (HX0.out.trans hx)
  obtain ⟨_, k0, k1, k2, k3, _, _, _, _⟩ := (HNA.out.mv (b := g + 1) (Mv.of_ext hx) (by omega)).nb
  clear hx
  by_cases hlt : i < ks.length
  ·have hI : (i : Int) < (ks.length : Int) := by omega
   obtain ⟨t, htt⟩ : ∃ t, ks[i]? = some t := ⟨_, List.getElem?_eq_getElem hlt⟩
   obtain ⟨g0, off0, d0, hA0, hrp0, hc0⟩ := kid_at HR.out i t htt
   simp only at hA0
   rw [hA0] at k3
   obtain ⟨p0, p1, p2, p3⟩ := hc0 _ HXW.out
   have hgl := block_lt_of_cell p0
   obtain ⟨h1, h2, h3⟩ := HT.out t (List.mem_of_getElem? htt)
   have hlen := showT_len h2
   have hsh := HS.out t d0 P wr h1 h2 h3 (hrp0.ext HXW.out) (HTB.out.ext HXW.out)
   unfold StrPost at hsh
   obtain ⟨SX, hSX⟩ : ∃ S, S = bs (showT t) := ⟨_, rfl⟩
   rw [show (⟨(showT t).toArray⟩ : ByteArray) = SX from hSX.symm] at hsh
   have zx : SX.size ≤ 10000000 := by rw [hSX, bs_size]; omega
   have HSH := Lib.hid hsh
   have hxg : (ks.map showT).getD i [] = showT t := by rw [List.getD_eq_getElem?_getD, List.getElem?_map, htt]; rfl
   have hjl : (jn (ks.map showT) i).length ≤ 10000010 := by
    obtain rfl | rfl : i = 0 ∨ i = 1 := by omega
    ·simp [jn]
    ·obtain ⟨t0, ht0⟩ : ∃ t, ks[0]? = some t := ⟨_, List.getElem?_eq_getElem (by omega)⟩
     have h9 := HT.out t0 (List.mem_of_getElem? ht0)
     have h8 := showT_len h9.2.1
     have e9 : (ks.map showT).getD 0 [] = showT t0 := by rw [List.getD_eq_getElem?_getD, List.getElem?_map, ht0]; rfl
     simp only [jn, e9, List.length_append, List.length_nil]
     simp; omega
   obtain ⟨Z, hZ⟩ : ∃ Z, Z = bs (s ++ [40] ++ jn (ks.map showT) i) := ⟨_, rfl⟩
   have zz : Z.size ≤ 10000100 := by
    have e9 : ds.size = s.length := by rw [HDS.out, bs_size]
    rw [hZ, bs_size]; simp; omega
   rw [← hZ]
   have HZ := Lib.hid (show bs (s ++ [40] ++ jn (ks.map showT) (i + 1)) = if 0 < i then Z ++ ⟨#[44, 32]⟩ ++ SX else Z ++ SX from by
    simp only [jn, hxg, hZ, hSX]
    by_cases h0 : 0 < i
    ·rw [if_pos h0, if_pos h0, show (⟨#[44, 32]⟩ : ByteArray) = bs [44, 32] from rfl, bs_app, bs_app]
     simp
    ·rw [if_neg h0, if_neg h0, bs_app]
     simp)
   have r0 : ¬ 9223372036854775807 < Z.size + 2 := by omega
   have r1 : ¬ 9223372036854775807 < Z.size + 2 + SX.size := by omega
   have r2 : ¬ 9223372036854775807 < Z.size + SX.size := by omega
   clear hA0 hrp0 hc0 htt h1 h2 h3 hlen hsh hSX hxg hjl hZ
   by_cases h0 : 0 < i
   ·have h0I : (0 : Int) < (i : Int) := by omega
    go_wp2_with (first | (go_at_call 27; refine (HSH.out).mono ?_; rintro e w5 ⟨rfl, hx5⟩))
    exact ⟨⟨i + 1, by rw [List.length_map]; omega, by rw [HZ.out, if_pos h0], by simp, HXR.out.trans hx5⟩, by simp only [toM]; omega⟩
   ·have h0I : ¬ (0 : Int) < (i : Int) := by omega
    go_wp2_with (first | (go_at_call 27; refine (HSH.out).mono ?_; rintro e w5 ⟨rfl, hx5⟩))
    exact ⟨⟨i + 1, by rw [List.length_map]; omega, by rw [HZ.out, if_neg h0], by simp, HXR.out.trans hx5⟩, by simp only [toM]; omega⟩
  ·obtain rfl : i = ks.length := by omega
   have hni : ¬ ((ks.length : Int) < (ks.length : Int)) := by omega
   obtain ⟨Z, hZ⟩ : ∃ Z, Z = bs (s ++ [40] ++ jn (ks.map showT) ks.length) := ⟨_, rfl⟩
   have hjl : ∀ i, i ≤ ks.length → (jn (ks.map showT) i).length ≤ i * 10000002 := by
    intro i
    induction i with
    | zero => intro _; simp [jn]
    | succ i ih =>
     intro hi
     have := ih (by omega)
     obtain ⟨t, htt⟩ : ∃ t, ks[i]? = some t := ⟨_, List.getElem?_eq_getElem (by omega)⟩
     obtain ⟨h1, h2, h3⟩ := HT.out t (List.mem_of_getElem? htt)
     have hlen := showT_len h2
     have hxg : (ks.map showT).getD i [] = showT t := by rw [List.getD_eq_getElem?_getD, List.getElem?_map, htt]; rfl
     simp only [jn, hxg, List.length_append]
     split
     ·simp; omega
     ·simp; omega
   have zz : Z.size ≤ 100000000 := by
    have e9 : ds.size = s.length := by rw [HDS.out, bs_size]
    have := hjl ks.length (Nat.le_refl _)
    rw [hZ, bs_size]; simp; omega
   have r0 : ¬ 9223372036854775807 < Z.size + 1 := by omega
   have HF := Lib.hid (show Z ++ ⟨#[41]⟩ = R from by rw [hZ, HRR.out, show (⟨#[41]⟩ : ByteArray) = bs [41] from rfl, bs_app])
   rw [← hZ]
   clear hZ hjl
   go_wp2
   go_ret
   exact ⟨congrArg (fun z => Ending.returned (.string z)) HF.out, HX0.out.trans HXR.out⟩
set_option maxHeartbeats 4000000 in
set_option maxRecDepth 100000 in
theorem rshow_step {M : Nat} (hS : RSC M) : RSC (M + 1) := by
 intro t d P W ht hg hb hr htab
 have HTB := Lib.hid htab
 have HS := Lib.hid hS
 clear htab hS
 cases hg with
 | num n h =>
  rw [sh_num]
  obtain ⟨m, rfl⟩ := Int.eq_ofNat_of_zero_le h.1
  rw [itoa_nat]
  obtain ⟨e1, e2, e3, e4⟩ := hr.fields
  simp only [List.length_nil] at e4
  have HR := Lib.hid hr
  obtain ⟨dk, dn, ds, dA, dm, dc⟩ := d
  simp only at e1 e2 e3 e4 ⊢
  subst e1 e2 e4
  clear hr
  have HDS := Lib.hid e3
  have hx0 : Ext W (W.alloc (.cells #[.int .i64 1, .int .i64 ((m : Nat) : Int), .string ds, .slice dA 0 dc] 31)) := (Ext.refl W).alloc _
  have hna : NX (W.alloc (.cells #[.int .i64 1, .int .i64 ((m : Nat) : Int), .string ds, .slice dA 0 dc] 31)) W.heap.size 1 ((m : Nat) : Int) ds (.slice dA 0 dc) := heap_alloc_new _ _
  have HX0 := Lib.hid hx0
  have HNA := Lib.hid hna
  clear hx0 hna
  have HI := Lib.hid (fun X => dec59_any m X (by omega))
  clear e3 ht hb h
  go_enter Tryz.func27, Tryz.ntmps27
  go_wp2_with (first | (go_at_call 59; refine (HI.out _).mono ?_; rintro e w2 ⟨rfl, rfl⟩))
  go_ret
  exact ⟨rfl, HX0.out⟩
 | bool n h =>
  rw [sh_bool]
  obtain ⟨e1, e2, e3, e4⟩ := hr.fields
  simp only [List.length_nil] at e4
  have HR := Lib.hid hr
  obtain ⟨dk, dn, ds, dA, dm, dc⟩ := d
  simp only at e1 e2 e3 e4 ⊢
  subst e1 e2 e4
  clear hr
  have HDS := Lib.hid e3
  have hx0 : Ext W (W.alloc (.cells #[.int .i64 2, .int .i64 dn, .string ds, .slice dA 0 dc] 31)) := (Ext.refl W).alloc _
  have hna : NX (W.alloc (.cells #[.int .i64 2, .int .i64 dn, .string ds, .slice dA 0 dc] 31)) W.heap.size 2 dn ds (.slice dA 0 dc) := heap_alloc_new _ _
  have HX0 := Lib.hid hx0
  have HNA := Lib.hid hna
  clear hx0 hna
  clear e3 ht hb
  rcases h with rfl | rfl
  ·rw [if_neg (by decide)]
   go_enter Tryz.func27, Tryz.ntmps27
   go_wp2
   go_ret
   exact ⟨rfl, HX0.out⟩
  ·rw [if_pos rfl]
   go_enter Tryz.func27, Tryz.ntmps27
   go_wp2
   go_ret
   exact ⟨rfl, HX0.out⟩
 | day n h =>
  rw [sh_day]
  obtain ⟨m, rfl⟩ := Int.eq_ofNat_of_zero_le h.1
  have hmm : ((m : Nat) : Int).toNat = m := by omega
  rw [hmm]
  obtain ⟨e1, e2, e3, e4⟩ := hr.fields
  simp only [List.length_nil] at e4
  have HR := Lib.hid hr
  obtain ⟨dk, dn, ds, dA, dm, dc⟩ := d
  simp only at e1 e2 e3 e4 ⊢
  subst e1 e2 e4
  clear hr
  have HDS := Lib.hid e3
  have hx0 : Ext W (W.alloc (.cells #[.int .i64 3, .int .i64 ((m : Nat) : Int), .string ds, .slice dA 0 dc] 31)) := (Ext.refl W).alloc _
  have hna : NX (W.alloc (.cells #[.int .i64 3, .int .i64 ((m : Nat) : Int), .string ds, .slice dA 0 dc] 31)) W.heap.size 3 ((m : Nat) : Int) ds (.slice dA 0 dc) := heap_alloc_new _ _
  have HX0 := Lib.hid hx0
  have HNA := Lib.hid hna
  clear hx0 hna
  have hsz := prL_size (d := m) (by omega)
  have HI := Lib.hid (fun X (hX : Ext W X) => rprint_any m X (by omega) (HTB.out.ext hX))
  unfold StrPost at HI
  obtain ⟨S, hS⟩ : ∃ S, S = bs (prL m) := ⟨_, rfl⟩
  rw [show (⟨(prL m).toArray⟩ : ByteArray) = S from hS.symm] at HI
  have hSs : S.size = 10 := by rw [hS, bs_size, hsz]
  have q1 : ¬ 9223372036854775807 < 1 + S.size := by omega
  have HF := Lib.hid (show (⟨#[64]⟩ : ByteArray) ++ S = bs (64 :: prL m) from by rw [hS, show (⟨#[64]⟩ : ByteArray) = bs [64] from rfl, bs_app]; rfl)
  clear e3 ht hb h hS hsz hSs hmm
  go_enter Tryz.func27, Tryz.ntmps27
  go_wp2_with (first | (go_at_call 52; refine (HI.out _ HX0.out).mono ?_; rintro e w2 ⟨rfl, hx2⟩))
  go_ret
  exact ⟨congrArg (fun z => Ending.returned (.string z)) HF.out, HX0.out.trans hx2⟩
 | field s h =>
  rw [sh_field]
  obtain ⟨e1, e2, e3, e4⟩ := hr.fields
  simp only [List.length_nil] at e4
  have HR := Lib.hid hr
  obtain ⟨dk, dn, ds, dA, dm, dc⟩ := d
  simp only at e1 e2 e3 e4 ⊢
  subst e1 e2 e4
  clear hr
  have HDS := Lib.hid e3
  have hx0 : Ext W (W.alloc (.cells #[.int .i64 4, .int .i64 0, .string ds, .slice dA 0 dc] 31)) := (Ext.refl W).alloc _
  have hna : NX (W.alloc (.cells #[.int .i64 4, .int .i64 0, .string ds, .slice dA 0 dc] 31)) W.heap.size 4 0 ds (.slice dA 0 dc) := heap_alloc_new _ _
  have HX0 := Lib.hid hx0
  have HNA := Lib.hid hna
  clear hx0 hna
  clear e3 ht hb h
  go_enter Tryz.func27, Tryz.ntmps27
  go_wp2
  go_ret
  exact ⟨congrArg (fun z => Ending.returned (.string z)) HDS.out, HX0.out⟩
 | una s a h ha =>
  simp only [tsz, tszs] at ht
  simp only [shB, shBs] at hb
  rcases h with rfl | rfl
  ·rw [sh_not]
   obtain ⟨e1, e2, e3, e4⟩ := hr.fields
   simp only [List.length_cons, List.length_nil, Nat.zero_add] at e4
   have HR := Lib.hid hr
   obtain ⟨dk, dn, ds, dA, dm, dc⟩ := d
   simp only at e1 e2 e3 e4 ⊢
   subst e1 e2 e4
   clear hr
   have HDS := Lib.hid e3
   have hx0 : Ext W (W.alloc (.cells #[.int .i64 5, .int .i64 0, .string ds, .slice dA 1 dc] 31)) := (Ext.refl W).alloc _
   have hna : NX (W.alloc (.cells #[.int .i64 5, .int .i64 0, .string ds, .slice dA 1 dc] 31)) W.heap.size 5 0 ds (.slice dA 1 dc) := heap_alloc_new _ _
   have HX0 := Lib.hid hx0
   have HNA := Lib.hid hna
   clear hx0 hna
   have hb0 : (ds.toList == [110, 111, 116]) = true := by rw [e3, bs_list]; decide
   obtain ⟨g0, off0, d0, hA0, hrp0, hc0⟩ := kid_at HR.out 0 a rfl
   simp only at hA0
   subst hA0
   have HC0 := Lib.hid hc0
   have hla0 := showT_len (t := a) (by assumption)
   clear hc0
   have ho0 := fun X (hX : Ext W X) => (show Calls Tryz.prog 60 #[.agg #[.int .i64 d0.k, .int .i64 d0.n, .string d0.s, .slice d0.A d0.m d0.c], .int .i64 3] X (StrPost (opL (lvT a) 3 (showT a)) X) from rop_any HS.out a d0 P X (by omega) (by assumption) (by omega) (hrp0.ext hX) (HTB.out.ext hX) 3 (by omega))
   unfold StrPost at ho0
   obtain ⟨xa, hxa⟩ : ∃ x, x = opL (lvT a) 3 (showT a) := ⟨_, rfl⟩
   obtain ⟨SA, hSA⟩ : ∃ S, S = bs xa := ⟨_, rfl⟩
   rw [← hxa, show (⟨xa.toArray⟩ : ByteArray) = SA from hSA.symm] at ho0
   have hla2 := opL_len (lvT a) 3 (showT a)
   rw [← hxa] at hla2 ⊢
   have zA : SA.size = xa.length := by rw [hSA, bs_size]
   have HO0 := Lib.hid ho0
   have q0 : ¬ 9223372036854775807 < 4 + SA.size := by omega
   have HF := Lib.hid (show (⟨#[110, 111, 116, 32]⟩ : ByteArray) ++ SA = bs ([110, 111, 116, 32] ++ xa) from by rw [hSA, show (⟨#[110, 111, 116, 32]⟩ : ByteArray) = bs [110, 111, 116, 32] from rfl, bs_app])
   clear e3 ht hb hla0 hla2 ho0 hxa hSA zA hrp0
   obtain ⟨p0, p1, p2, p3⟩ := HC0.out _ HX0.out
   simp only [Nat.zero_mul, Nat.add_zero] at p0 p1 p2 p3
   go_enter Tryz.func27, Tryz.ntmps27
   go_wp2_with (first | (go_at_call 60; refine (HO0.out _ HX0.out).mono ?_; rintro e w2 ⟨rfl, hx2⟩))
   go_ret
   exact ⟨congrArg (fun z => Ending.returned (.string z)) (HF.out.trans (congrArg bs (by simp))), HX0.out.trans hx2⟩
  ·rw [sh_min]
   obtain ⟨e1, e2, e3, e4⟩ := hr.fields
   simp only [List.length_cons, List.length_nil, Nat.zero_add] at e4
   have HR := Lib.hid hr
   obtain ⟨dk, dn, ds, dA, dm, dc⟩ := d
   simp only at e1 e2 e3 e4 ⊢
   subst e1 e2 e4
   clear hr
   have HDS := Lib.hid e3
   have hx0 : Ext W (W.alloc (.cells #[.int .i64 5, .int .i64 0, .string ds, .slice dA 1 dc] 31)) := (Ext.refl W).alloc _
   have hna : NX (W.alloc (.cells #[.int .i64 5, .int .i64 0, .string ds, .slice dA 1 dc] 31)) W.heap.size 5 0 ds (.slice dA 1 dc) := heap_alloc_new _ _
   have HX0 := Lib.hid hx0
   have HNA := Lib.hid hna
   clear hx0 hna
   have hb0 : (ds.toList == [110, 111, 116]) = false := by rw [e3, bs_list]; decide
   obtain ⟨g0, off0, d0, hA0, hrp0, hc0⟩ := kid_at HR.out 0 a rfl
   simp only at hA0
   subst hA0
   have HC0 := Lib.hid hc0
   have hla0 := showT_len (t := a) (by assumption)
   clear hc0
   have ho0 := fun X (hX : Ext W X) => (show Calls Tryz.prog 60 #[.agg #[.int .i64 d0.k, .int .i64 d0.n, .string d0.s, .slice d0.A d0.m d0.c], .int .i64 7] X (StrPost (opL (lvT a) 7 (showT a)) X) from rop_any HS.out a d0 P X (by omega) (by assumption) (by omega) (hrp0.ext hX) (HTB.out.ext hX) 7 (by omega))
   unfold StrPost at ho0
   obtain ⟨xa, hxa⟩ : ∃ x, x = opL (lvT a) 7 (showT a) := ⟨_, rfl⟩
   obtain ⟨SA, hSA⟩ : ∃ S, S = bs xa := ⟨_, rfl⟩
   rw [← hxa, show (⟨xa.toArray⟩ : ByteArray) = SA from hSA.symm] at ho0
   have hla2 := opL_len (lvT a) 7 (showT a)
   rw [← hxa] at hla2 ⊢
   have zA : SA.size = xa.length := by rw [hSA, bs_size]
   have HO0 := Lib.hid ho0
   have q0 : ¬ 9223372036854775807 < 1 + SA.size := by omega
   have HF := Lib.hid (show (⟨#[45]⟩ : ByteArray) ++ SA = bs ([45] ++ xa) from by rw [hSA, show (⟨#[45]⟩ : ByteArray) = bs [45] from rfl, bs_app])
   clear e3 ht hb hla0 hla2 ho0 hxa hSA zA hrp0
   obtain ⟨p0, p1, p2, p3⟩ := HC0.out _ HX0.out
   simp only [Nat.zero_mul, Nat.add_zero] at p0 p1 p2 p3
   go_enter Tryz.func27, Tryz.ntmps27
   go_wp2_with (first | (go_at_call 60; refine (HO0.out _ HX0.out).mono ?_; rintro e w2 ⟨rfl, hx2⟩))
   go_ret
   exact ⟨congrArg (fun z => Ending.returned (.string z)) (HF.out.trans (congrArg bs (by simp))), HX0.out.trans hx2⟩
 | bin s a b h ha hb1 =>
  have HB := Lib.hid (fun X d' (hX : Ext W X) (hr' : Rep X P d' (.nd 6 0 s [a, b])) => rbin_any HS.out 6 s a b d' P X (by omega) (by exact .inl rfl) (GT.bin s a b h ha hb1) ha hb1 (by have := lv_short h; omega) hb hr' (HTB.out.ext hX))
  unfold StrPost at HB
  obtain ⟨RR, hRR⟩ : ∃ R, R = bs (showT (.nd 6 0 s [a, b])) := ⟨_, rfl⟩
  rw [show (⟨(showT (.nd 6 0 s [a, b])).toArray⟩ : ByteArray) = RR from hRR.symm] at HB
  unfold StrPost
  rw [show (⟨(showT (.nd 6 0 s [a, b])).toArray⟩ : ByteArray) = RR from hRR.symm]
  obtain ⟨e1, e2, e3, e4⟩ := hr.fields
  have HR := Lib.hid hr
  obtain ⟨dk, dn, ds, dA, dm, dc⟩ := d
  simp only at e1 e2 e3 e4 ⊢
  subst e1 e2
  have hx0 : Ext W (W.alloc (.cells #[.int .i64 6, .int .i64 0, .string ds, .slice dA dm dc] 31)) := (Ext.refl W).alloc _
  have HX0 := Lib.hid hx0
  have HBB := Lib.hid (HB.out _ ⟨6, 0, ds, dA, dm, dc⟩ hx0 (HR.out.ext hx0))
  clear hx0 hr ht hb hRR e3 e4
  go_enter Tryz.func27, Tryz.ntmps27
  go_wp2_with (first | (go_at_call 61; refine (HBB.out).mono ?_; rintro e w2 ⟨rfl, hx2⟩))
  go_ret
  exact ⟨rfl, HX0.out.trans hx2⟩
 | aft k s a b hk h ha hb1 =>
  have HB := Lib.hid (fun X d' (hX : Ext W X) (hr' : Rep X P d' (.nd k 0 s [a, b])) => rbin_any HS.out k s a b d' P X (by omega) (by omega) (GT.aft k s a b hk h ha hb1) ha hb1 (by have := unit_short h; omega) hb hr' (HTB.out.ext hX))
  unfold StrPost at HB
  obtain ⟨RR, hRR⟩ : ∃ R, R = bs (showT (.nd k 0 s [a, b])) := ⟨_, rfl⟩
  rw [show (⟨(showT (.nd k 0 s [a, b])).toArray⟩ : ByteArray) = RR from hRR.symm] at HB
  unfold StrPost
  rw [show (⟨(showT (.nd k 0 s [a, b])).toArray⟩ : ByteArray) = RR from hRR.symm]
  obtain ⟨e1, e2, e3, e4⟩ := hr.fields
  have HR := Lib.hid hr
  obtain ⟨dk, dn, ds, dA, dm, dc⟩ := d
  simp only at e1 e2 e3 e4 ⊢
  subst e1 e2
  rcases hk with rfl | rfl
  ·skip
   have hx0 : Ext W (W.alloc (.cells #[.int .i64 7, .int .i64 0, .string ds, .slice dA dm dc] 31)) := (Ext.refl W).alloc _
   have HX0 := Lib.hid hx0
   have HBB := Lib.hid (HB.out _ ⟨7, 0, ds, dA, dm, dc⟩ hx0 (HR.out.ext hx0))
   clear hx0 hr ht hb hRR e3 e4
   go_enter Tryz.func27, Tryz.ntmps27
   go_wp2_with (first | (go_at_call 61; refine (HBB.out).mono ?_; rintro e w2 ⟨rfl, hx2⟩))
   go_ret
   exact ⟨rfl, HX0.out.trans hx2⟩
  ·skip
   have hx0 : Ext W (W.alloc (.cells #[.int .i64 8, .int .i64 0, .string ds, .slice dA dm dc] 31)) := (Ext.refl W).alloc _
   have HX0 := Lib.hid hx0
   have HBB := Lib.hid (HB.out _ ⟨8, 0, ds, dA, dm, dc⟩ hx0 (HR.out.ext hx0))
   clear hx0 hr ht hb hRR e3 e4
   go_enter Tryz.func27, Tryz.ntmps27
   go_wp2_with (first | (go_at_call 61; refine (HBB.out).mono ?_; rintro e w2 ⟨rfl, hx2⟩))
   go_ret
   exact ⟨rfl, HX0.out.trans hx2⟩
 | ite a b c ha hb1 hc1 =>
  rw [sh_ite]
  simp only [tsz, tszs] at ht
  simp only [shB, shBs] at hb
  obtain ⟨e1, e2, e3, e4⟩ := hr.fields
  simp only [List.length_cons, List.length_nil, Nat.zero_add] at e4
  have HR := Lib.hid hr
  obtain ⟨dk, dn, ds, dA, dm, dc⟩ := d
  simp only at e1 e2 e3 e4 ⊢
  subst e1 e2 e4
  clear hr
  have HDS := Lib.hid e3
  have hx0 : Ext W (W.alloc (.cells #[.int .i64 9, .int .i64 0, .string ds, .slice dA 3 dc] 31)) := (Ext.refl W).alloc _
  have hna : NX (W.alloc (.cells #[.int .i64 9, .int .i64 0, .string ds, .slice dA 3 dc] 31)) W.heap.size 9 0 ds (.slice dA 3 dc) := heap_alloc_new _ _
  have HX0 := Lib.hid hx0
  have HNA := Lib.hid hna
  clear hx0 hna
  obtain ⟨g0, off0, d0, hA0, hrp0, hc0⟩ := kid_at HR.out 0 a rfl
  obtain ⟨g1, off1, d1, hA1, hrp1, hc1⟩ := kid_at HR.out 1 b rfl
  obtain ⟨g2, off2, d2, hA2, hrp2, hc2⟩ := kid_at HR.out 2 c rfl
  simp only at hA0 hA1 hA2
  obtain ⟨rfl, rfl⟩ : g0 = g1 ∧ off0 = off1 := by rw [hA0] at hA1; injection hA1 with hA1; injection hA1 with h8 h9 _; exact ⟨h8, h9⟩
  obtain ⟨rfl, rfl⟩ : g0 = g2 ∧ off0 = off2 := by rw [hA0] at hA2; injection hA2 with hA2; injection hA2 with h8 h9 _; exact ⟨h8, h9⟩
  subst hA0
  have HC0 := Lib.hid hc0
  have hla0 := showT_len (t := a) (by assumption)
  have HC1 := Lib.hid hc1
  have hla1 := showT_len (t := b) (by assumption)
  have HC2 := Lib.hid hc2
  have hla2 := showT_len (t := c) (by assumption)
  clear hc0 hc1 hc2 hA1 hA2
  have ho0 := fun X (hX : Ext W X) => HS.out a d0 P X (by omega) (by assumption) (by omega) (hrp0.ext hX) (HTB.out.ext hX)
  have ho1 := fun X (hX : Ext W X) => HS.out b d1 P X (by omega) (by assumption) (by omega) (hrp1.ext hX) (HTB.out.ext hX)
  have ho2 := fun X (hX : Ext W X) => HS.out c d2 P X (by omega) (by assumption) (by omega) (hrp2.ext hX) (HTB.out.ext hX)
  unfold StrPost at ho0 ho1 ho2
  obtain ⟨xa, hxa⟩ : ∃ x, x = showT a := ⟨_, rfl⟩
  obtain ⟨Sa, hSa⟩ : ∃ S, S = bs xa := ⟨_, rfl⟩
  rw [← hxa, show (⟨xa.toArray⟩ : ByteArray) = Sa from hSa.symm] at ho0
  rw [← hxa] at hla0 ⊢
  have za : Sa.size = xa.length := by rw [hSa, bs_size]
  have HO0 := Lib.hid ho0
  obtain ⟨xb, hxb⟩ : ∃ x, x = showT b := ⟨_, rfl⟩
  obtain ⟨Sb, hSb⟩ : ∃ S, S = bs xb := ⟨_, rfl⟩
  rw [← hxb, show (⟨xb.toArray⟩ : ByteArray) = Sb from hSb.symm] at ho1
  rw [← hxb] at hla1 ⊢
  have zb : Sb.size = xb.length := by rw [hSb, bs_size]
  have HO1 := Lib.hid ho1
  obtain ⟨xc, hxc⟩ : ∃ x, x = showT c := ⟨_, rfl⟩
  obtain ⟨Sc, hSc⟩ : ∃ S, S = bs xc := ⟨_, rfl⟩
  rw [← hxc, show (⟨xc.toArray⟩ : ByteArray) = Sc from hSc.symm] at ho2
  rw [← hxc] at hla2 ⊢
  have zc : Sc.size = xc.length := by rw [hSc, bs_size]
  have HO2 := Lib.hid ho2
  have q0 : ¬ 9223372036854775807 < 3 + Sa.size := by omega
  have q1 : ¬ 9223372036854775807 < 3 + Sa.size + 6 := by omega
  have q2 : ¬ 9223372036854775807 < 3 + Sa.size + 6 + Sb.size := by omega
  have q3 : ¬ 9223372036854775807 < 3 + Sa.size + 6 + Sb.size + 6 := by omega
  have q4 : ¬ 9223372036854775807 < 3 + Sa.size + 6 + Sb.size + 6 + Sc.size := by omega
  have q5 : ¬ 9223372036854775807 < 3 + Sa.size + 6 + Sb.size + 6 + Sc.size + 4 := by omega
  have HF := Lib.hid (show (⟨#[105, 102, 32]⟩ : ByteArray) ++ Sa ++ ⟨#[32, 116, 104, 101, 110, 32]⟩ ++ Sb ++ ⟨#[32, 101, 108, 115, 101, 32]⟩ ++ Sc ++ ⟨#[32, 101, 110, 100]⟩ = bs ([105, 102, 32] ++ xa ++ [32, 116, 104, 101, 110, 32] ++ xb ++ [32, 101, 108, 115, 101, 32] ++ xc ++ [32, 101, 110, 100]) from by
   rw [hSa, hSb, hSc, show (⟨#[105, 102, 32]⟩ : ByteArray) = bs [105, 102, 32] from rfl, show (⟨#[32, 116, 104, 101, 110, 32]⟩ : ByteArray) = bs [32, 116, 104, 101, 110, 32] from rfl, show (⟨#[32, 101, 108, 115, 101, 32]⟩ : ByteArray) = bs [32, 101, 108, 115, 101, 32] from rfl, show (⟨#[32, 101, 110, 100]⟩ : ByteArray) = bs [32, 101, 110, 100] from rfl, bs_app, bs_app, bs_app, bs_app, bs_app, bs_app])
  clear e3 ht hb hla0 hla1 hla2 ho0 ho1 ho2 hxa hxb hxc hSa hSb hSc za zb zc hrp0 hrp1 hrp2
  go_enter Tryz.func27, Tryz.ntmps27
  go_upto_region 17 with (fail)
  have HNB := Lib.hid HNA.out
  generalize W.alloc (.cells #[.int .i64 9, .int .i64 0, .string ds, .slice (some ⟨g0, off0, none⟩) 3 dc] 31) = w1 at *
  generalize W.heap.size = gg at *
  have HQ := Lib.hid (fun X (hX : Ext w1 X) => (show X.cell? ⟨gg, 3, none⟩ = some (.slice (some ⟨g0, off0, none⟩) 3 dc) ∧ X.cell? ⟨g0, off0, none⟩ = some (.int .i64 d0.k) ∧ X.cell? ⟨g0, off0 + 1, none⟩ = some (.int .i64 d0.n) ∧ X.cell? ⟨g0, off0 + 2, none⟩ = some (.string d0.s) ∧ X.cell? ⟨g0, off0 + 3, none⟩ = some (.slice d0.A d0.m d0.c) ∧ X.cell? ⟨g0, off0 + 4, none⟩ = some (.int .i64 d1.k) ∧ X.cell? ⟨g0, off0 + 4 + 1, none⟩ = some (.int .i64 d1.n) ∧ X.cell? ⟨g0, off0 + 4 + 2, none⟩ = some (.string d1.s) ∧ X.cell? ⟨g0, off0 + 4 + 3, none⟩ = some (.slice d1.A d1.m d1.c) ∧ X.cell? ⟨g0, off0 + 8, none⟩ = some (.int .i64 d2.k) ∧ X.cell? ⟨g0, off0 + 8 + 1, none⟩ = some (.int .i64 d2.n) ∧ X.cell? ⟨g0, off0 + 8 + 2, none⟩ = some (.string d2.s) ∧ X.cell? ⟨g0, off0 + 8 + 3, none⟩ = some (.slice d2.A d2.m d2.c) from by
   obtain ⟨p0, p1, p2, p3⟩ := HC0.out X (HX0.out.trans hX)
   obtain ⟨r0, r1, r2, r3⟩ := HC1.out X (HX0.out.trans hX)
   obtain ⟨v0, v1, v2, v3⟩ := HC2.out X (HX0.out.trans hX)
   obtain ⟨_, k0, k1, k2, k3, _, _, _, _⟩ := HNB.out.nb
   simp only [Nat.zero_mul, Nat.add_zero, Nat.one_mul] at p0 p1 p2 p3 r0 r1 r2 r3
   exact ⟨cells_ext k3 hX, p0, p1, p2, p3, r0, r1, r2, r3, v0, v1, v2, v3⟩))
  obtain ⟨u0, u1, u2, u3, u4, u5, u6, u7, u8, u9, u10, u11, u12⟩ := HQ.out w1 (Ext.refl _)
  have hcur : Ext w1 w1.drew := (Ext.refl _).drew
  go_region_held3 (fun X => X.cell? ⟨gg, 3, none⟩ = some (.slice (some ⟨g0, off0, none⟩) 3 dc) ∧ X.cell? ⟨g0, off0, none⟩ = some (.int .i64 d0.k) ∧ X.cell? ⟨g0, off0 + 1, none⟩ = some (.int .i64 d0.n) ∧ X.cell? ⟨g0, off0 + 2, none⟩ = some (.string d0.s) ∧ X.cell? ⟨g0, off0 + 3, none⟩ = some (.slice d0.A d0.m d0.c) ∧ X.cell? ⟨g0, off0 + 4, none⟩ = some (.int .i64 d1.k) ∧ X.cell? ⟨g0, off0 + 4 + 1, none⟩ = some (.int .i64 d1.n) ∧ X.cell? ⟨g0, off0 + 4 + 2, none⟩ = some (.string d1.s) ∧ X.cell? ⟨g0, off0 + 4 + 3, none⟩ = some (.slice d1.A d1.m d1.c) ∧ X.cell? ⟨g0, off0 + 8, none⟩ = some (.int .i64 d2.k) ∧ X.cell? ⟨g0, off0 + 8 + 1, none⟩ = some (.int .i64 d2.n) ∧ X.cell? ⟨g0, off0 + 8 + 2, none⟩ = some (.string d2.s) ∧ X.cell? ⟨g0, off0 + 8 + 3, none⟩ = some (.slice d2.A d2.m d2.c)) (first | exact HQ.out _ hcur | go_keep)
   (first
    | (go_at_call_of 27 (Value.agg #[Value.int IntKind.i64 d0.k, Value.int IntKind.i64 d0.n, Value.string d0.s, Value.slice d0.A d0.m d0.c]); refine (HO0.out _ (HX0.out.trans hcur)).mono ?_; rintro e wn ⟨rfl, hx⟩; have hcur := hcur.trans hx; clear hx)
    | (go_at_call_of 27 (Value.agg #[Value.int IntKind.i64 d1.k, Value.int IntKind.i64 d1.n, Value.string d1.s, Value.slice d1.A d1.m d1.c]); refine (HO1.out _ (HX0.out.trans hcur)).mono ?_; rintro e wn ⟨rfl, hx⟩; have hcur := hcur.trans hx; clear hx)
    | (go_at_call_of 27 (Value.agg #[Value.int IntKind.i64 d2.k, Value.int IntKind.i64 d2.n, Value.string d2.s, Value.slice d2.A d2.m d2.c]); refine (HO2.out _ (HX0.out.trans hcur)).mono ?_; rintro e wn ⟨rfl, hx⟩; have hcur := hcur.trans hx; clear hx))
  all_goals
   go_wp2
   go_ret
   exact ⟨congrArg (fun z => Ending.returned (.string z)) (HF.out.trans (congrArg bs (by simp))), HX0.out.trans hcur⟩
 | call1 s a h hs ha =>
  simp only [tsz, tszs] at ht
  simp only [shB, shBs] at hb
  refine rcall_any HS.out s [a] d P W (by simp) (by simp) (fun x hx => ?_) (by have := fun_short h; omega) hr HTB.out _ ?_
  ·obtain rfl := by simpa using hx
   exact ⟨by omega, ha, by omega⟩
  ·rw [sh_call]
   show bs _ = _
   rw [show ([a] : List Tr).length = 1 from rfl, show ([a] : List Tr).map showT = [showT a] from rfl, jn1]
 | call2 s a b h hs ha hb1 =>
  simp only [tsz, tszs] at ht
  simp only [shB, shBs] at hb
  refine rcall_any HS.out s [a, b] d P W (by simp) (by simp) (fun x hx => ?_) (by have := fun_short h; omega) hr HTB.out _ ?_
  ·rcases List.mem_cons.1 hx with rfl | hx
   ·exact ⟨by omega, ha, by omega⟩
   ·obtain rfl := by simpa using hx
    exact ⟨by omega, hb1, by omega⟩
  ·rw [sh_call]
   show bs _ = _
   rw [show ([a, b] : List Tr).length = 2 from rfl, show ([a, b] : List Tr).map showT = [showT a, showT b] from rfl, jn2]
theorem rshow_any : ∀ M, RSC M
 | 0 => fun t d P W h => by omega
 | M + 1 => rshow_step (rshow_any M)
end Go.Proofs.YtnpenepdechkjaaGreatDoor
