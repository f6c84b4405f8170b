/- The reference's Items: walked. -/
import Derived.Test.YtdbnddmncbjobaaGreatDoorMbo
namespace Go.Proofs.YtdbnddmncbjobaaGreatDoor
section
open Go Go.RowKit
attribute [local go_sem] Oper.semAt_some
def txO (o : Option Tx) : Tx := o.getD ⟨[], []⟩
theorem hitW_no (br tb : Int) (ls : List Sea) (p : Pg) (k : Nat) (n : Int) : hitW br tb ls ⟨[], []⟩ p k n = [] := by
 have : wordT ⟨[], []⟩ n = none := by unfold wordT; split <;> simp
 unfold hitW
 rw [this]
theorem hitL_no (br tb : Int) (ls : List Sea) (p : Pg) (xs : List Ln) (m : Nat) : hitL br tb ls ⟨[], []⟩ p xs m = [] := by
 unfold hitL
 rw [List.flatMap_eq_nil_iff]
 intro k _
 split
 ·rfl
 ·unfold hitX hitN
  rw [List.flatMap_eq_nil_iff]
  intro i _
  exact hitW_no _ _ _ _ _ _
theorem hitP_txO (br tb : Int) (ls : List Sea) (b : Bk) (p : Pg) : hitP br tb ls b p = hitL br tb ls (txO (textB b p.ent p.ver)) p (p.body ++ p.nts) (p.body ++ p.nts).length := by
 unfold hitP txO
 cases textB b p.ent p.ver with
 | none => exact (hitL_no _ _ _ _ _ _).symm
 | some t => rfl
theorem hitW_getD (br tb : Int) (ls : List Sea) (t : Tx) (p : Pg) (k : Nat) (n : Int) : hitW br tb ls t p k n = if ((wordT t n).getD noWd).key ≠ [] ∧ ((wordT t n).getD noWd).tb = tb ∧ seald ls p.ent p.ver n = false then [(((wordT t n).getD noWd).key, ⟨br, p.num, p.suf, (k : Int) + 1⟩)] else [] := by
 unfold hitW
 cases wordT t n with
 | none => rw [if_neg (by rintro ⟨h, _⟩; exact h rfl)]
 | some w => rfl
theorem tabP_snoc (hs : List (List UInt8 × Ct)) (k : List UInt8) (c : Ct) : tabP (hs ++ [(k, c)]) = putP (tabP hs) k c := by
 unfold tabP
 rw [List.foldl_append]
 rfl
theorem txO_small {b : Bk} {N V : Nat} (h : OkB b N V) (e v : Int) : (txO (textB b e v)).paras.length ≤ 1000 ∧ (txO (textB b e v)).notes.length ≤ 1000 ∧ (∀ p ∈ (txO (textB b e v)).paras ++ (txO (textB b e v)).notes, p.length ≤ 1000) ∧ ∀ n y, wordT (txO (textB b e v)) n = some y → y.key.length ≤ 1000 := by
 unfold txO
 cases ho : textB b e v with
 | none =>
  refine ⟨by simp, by simp, fun p hp => by simp at hp, fun n y hy => ?_⟩
  have : wordT (Option.getD (none : Option Tx) ⟨[], []⟩) n = none := by unfold wordT; split <;> simp
  rw [this] at hy; cases hy
 | some t =>
  have hok := textB_ok h ho
  have := hok.np
  have := hok.nn
  refine ⟨by show t.paras.length ≤ 1000; omega, by show t.notes.length ≤ 1000; omega, fun p hp => ?_, fun n y hy => ?_⟩
  ·have hp' : p ∈ t.paras ++ t.notes := hp
   rcases List.mem_append.1 hp' with h9 | h9
   ·have := (hok.par.len p h9).2; omega
   ·have := (hok.len p h9).2; omega
  ·have hy' : wordT t n = some y := hy
   obtain ⟨_, _, q, hq, hwq⟩ := wordT_lt hy'
   rcases List.mem_append.1 hq with h9 | h9
   ·have := (hok.par.ok q h9 y hwq).2.2.2.2; omega
   ·have := (hok.ok q h9 y hwq).1.2.2.2.2; omega
def TbA (hs : List (List UInt8 × Ct)) (s9 : Value) (W : World) : Prop := ∃ A n c, s9 = .slice A n c ∧ TbV W A n c (tabP hs) hs.length
theorem TbA.ext {hs : List (List UInt8 × Ct)} {s9 : Value} {W W' : World} (h : TbA hs s9 W) (hx : Ext W W') : TbA hs s9 W' := by
 obtain ⟨A, n, c, rfl, h1⟩ := h
 exact ⟨A, n, c, rfl, h1.ext hx⟩
def RiA (w2 : World) (np : Nat) (f : Nat → List (List UInt8 × Ct)) (s9 s11 : Value) (W : World) : Prop := ∃ i : Nat, i ≤ np ∧ s11 = .int .i64 i ∧ TbA (f i) s9 W ∧ Ext w2 W
def RiN (w7 : World) (fr un : Int) (f : Nat → List (List UInt8 × Ct)) (s9 s17 : Value) (W : World) : Prop := ∃ m : Nat, m ≤ (un - fr).toNat ∧ s17 = .int .i64 (fr + (m : Nat)) ∧ TbA (f m) s9 W ∧ Ext w7 W
set_option maxHeartbeats 8000000 in
set_option maxRecDepth 100000 in
theorem ritems_any (P Q : Nat → Prop) (w : World) (b : Bk) (br tb : Int) (ls : List Sea) (A A2 : Option Addr) (N c n2 c2 : Nat) (hok : OkB b 4 3) (hr : kSe.row w P A N b.secs) (hs : kSea.row w Q A2 n2 ls) (hn2 : n2 ≤ 1000000) (hg : ∀ s ∈ ls, OkSea s) :
  Calls Tryz.prog 20 #[.agg #[.int .i64 b.ms, .int .i64 b.ht, .slice A N c], .int .i64 br, .int .i64 tb, .slice A2 n2 c2] w fun e w' => ∃ A1 n1 c1, e = .returned (.slice A1 n1 c1) ∧ TbV w' A1 n1 c1 (itemsB br tb ls b) 16000000 ∧ Ext w w' := by
 have hbi := hok.bkI (by omega) (by omega) (by omega)
 have HOK := Hd hok
 have HLEN := Hd (fun i => hsI_len hok (by omega) br tb ls i)
 obtain ⟨z, hz⟩ : ∃ z, w.heap.size = z := ⟨_, rfl⟩
 obtain ⟨w0, hw0⟩ : ∃ w0, w.alloc (.cells #[.int .i64 b.ms, .int .i64 b.ht, .slice A N c] 27) = w0 := ⟨_, rfl⟩
 have hx0 : Ext w w0 := by rw [← hw0]; exact (Ext.refl w).alloc _
 have hB0 : w0.heap[z]? = some (.cells #[.int .i64 b.ms, .int .i64 b.ht, .slice A N c] 27 (0, 0)) := by rw [← hw0, ← hz]; exact heap_alloc_new _ _
 have HX0 := Hd hx0
 have HB0 := Hd hB0
 have HRP := Hd (rpages_any P w0 b A N c hbi (Lay.row_ext hr hx0))
 have HTX := Hd (fun X (hX : Ext w0 X) (e v : Int) => text59_any P X b e v A N c (Lay.row_ext hr (hx0.trans hX)) (by have := Lay.row_len hr; have := hok.n; omega) (fun x hx => by have := (hok.vs x hx).2.2; omega) (fun x hx => (hok.vs x hx).1))
 have HGR := Hd (fun X (hX : Ext w0 X) (e v k : Int) => groups61_any Q X A2 n2 c2 ls e v k (Lay.row_ext hs (hx0.trans hX)) hn2 hg)
 have HQ0 := Hd (fun X (hX : Ext w0 X) => (show X.cell? ⟨z, 0, none⟩ = some (.int .i64 b.ms) ∧ X.cell? ⟨z, 1, none⟩ = some (.int .i64 b.ht) ∧ X.cell? ⟨z, 2, none⟩ = some (.slice A N c) from
  have h9 := (hX.block _ (lt_of_block hB0)).trans hB0
  ⟨cof h9 (i := 0) rfl, cof h9 (i := 1) rfl, cof h9 (i := 2) rfl⟩))
 obtain ⟨a0, a1, a2⟩ := HQ0.out _ (Ext.refl _)
 clear hr hs hn2 hg hx0 hB0 hbi hok
 go_enter Tryz.func20, Tryz.ntmps20
 go_wp2_with (first | (go_at_call 58; refine (HRP.out).mono ?_; rintro e w2 ⟨Ap, np, cp, rfl, hnp1, hnp2, hrp, hx2⟩; have HRW := Hd hrp; have HX2 := Hd hx2; have HNP := Hd (Lay.row_len hrp); clear hrp hx2))
 clear hw0 hz a0 a1 a2 HRP hnp1
 go_loopw [9, 11] (fun s9 s11 W => RiA w2 np (hsI br tb ls b) s9 s11 W) (fun _ s11 _ => toM np s11)
 case atStart => exact ⟨0, Nat.zero_le _, rfl, ⟨none, 0, 0, rfl, TbV.nil _ _⟩, Ext.refl _⟩
 obtain ⟨i, hi, rfl, ⟨A1, n1, c1, rfl, hT⟩, hxr⟩ := hrel
 have HT := Hd hT
 have HXR := Hd hxr
 have HX0R := Hd (HX2.out.trans hxr)
 clear hT hxr
 have hwi : IntKind.i64.wrap ((i : Int) + 1) = (i : Int) + 1 := IntWalk.i64_in _ (by omega)
 by_cases hlt : i < np
 case neg =>
  have hni : ¬ (i : Int) < (np : Int) := by omega
  have hti : hsI br tb ls b i = hits br tb ls b := by
   unfold hsI hits
   rw [List.take_of_length_le (by rw [← HNP.out]; omega)]
  have hl9 := HLEN.out i
  have h9 := HT.out
  rw [hti] at h9 hl9
  have HFIN := Hd (show TbV wr A1 n1 c1 (itemsB br tb ls b) 16000000 from TbV.mono h9 hl9)
  clear h9 hti hl9
  go_wp2_with fail
  go_ret
  exact ⟨A1, n1, c1, rfl, HFIN.out, HX0.out.trans HX0R.out⟩
 have hI : (i : Int) < (np : Int) := by omega
 obtain ⟨p, hp⟩ : ∃ p, (pagesB b)[i]? = some p := ⟨_, List.getElem?_eq_getElem (by rw [← HNP.out]; exact hlt)⟩
 have hpm := List.mem_of_getElem? hp
 obtain ⟨gb, off, cs, rfl, hgbl, _, hrep, hcs⟩ := Lay.row_at HRW.out hp
 obtain ⟨A7, n7, c7, A8, n8, c8, rfl, hn7, hn8, r7, r8⟩ := kPg_rep.1 hrep
 have x0 := (HXR.out.cells.1 _ _ hgbl).trans (hcs 0 _ rfl)
 have x1 := (HXR.out.cells.1 _ _ hgbl).trans (hcs 1 _ rfl)
 have x2 := (HXR.out.cells.1 _ _ hgbl).trans (hcs 2 _ rfl)
 have x3 := (HXR.out.cells.1 _ _ hgbl).trans (hcs 3 _ rfl)
 have x4 := (HXR.out.cells.1 _ _ hgbl).trans (hcs 4 _ rfl)
 have x5 := (HXR.out.cells.1 _ _ hgbl).trans (hcs 5 _ rfl)
 rw [kPg_sz] at x0 x1 x2 x3 x4 x5
 rw [Nat.add_zero] at x0
 have HR7 := Hd (fun X (hX : Ext w2 X) => Lay.row_ext r7 hX)
 have HR8 := Hd (fun X (hX : Ext w2 X) => Lay.row_ext r8 hX)
 have HP := Hd hp
 have HSM := Hd (txO_small HOK.out p.ent p.ver)
 have hgt := HOK.out.hgt p hpm
 have HRNG := Hd (HOK.out.rng p hpm)
 have HTXP := Hd (fun X (hX : Ext w0 X) => HTX.out X hX p.ent p.ver)
 have HHI := Hd (show hsI br tb ls b (i + 1) = hsI br tb ls b i ++ hitL br tb ls (txO (textB b p.ent p.ver)) p (p.body ++ p.nts) (p.body ++ p.nts).length by rw [hsI_succ br tb ls b hp, hitP_txO])
 obtain ⟨t, ht⟩ : ∃ t, txO (textB b p.ent p.ver) = t := ⟨_, rfl⟩
 have HTY := Hd (fun X (hX : Ext w0 X) => (show Calls Tryz.prog 59 #[.agg #[.int .i64 b.ms, .int .i64 b.ht, .slice A N c], .int .i64 p.ent, .int .i64 p.ver] X (fun e w' => ∃ A5 n5 c5 A6 n6 c6 ok, e = .returned (.tuple #[.agg #[.slice A5 n5 c5, .slice A6 n6 c6], .bool ok]) ∧ kWs.row w' (fun _ => True) A5 n5 t.paras ∧ kWs.row w' (fun _ => True) A6 n6 t.notes ∧ Ext X w') from by
  refine (HTXP.out X hX).mono ?_
  rintro e w' ⟨A5, n5, c5, A6, n6, c6, rfl, _, _, r5, r6, hx⟩
  rw [← ht]
  exact ⟨A5, n5, c5, A6, n6, c6, _, rfl, Lay.row_mono r5 fun _ _ _ => trivial, Lay.row_mono r6 fun _ _ _ => trivial, hx⟩))
 rw [ht] at HSM HHI
 have HL78 := Hd (show n7 = p.body.length ∧ n8 = p.nts.length from ⟨Lay.row_len r7, Lay.row_len r8⟩)
 rw [List.length_append] at hgt
 have hn78 : n7 + n8 ≤ 100 := by have := HL78.out; omega
 clear hrep hcs r7 r8 hp hpm hgbl ht hgt HTXP hn7 hn8
 obtain ⟨z12, hz12⟩ : ∃ z12, wr.heap.size = z12 := ⟨_, rfl⟩
 obtain ⟨w3, hw3⟩ : ∃ w3, wr.alloc (.cells #[.int .i64 p.num, .int .i64 p.suf, .int .i64 p.ent, .int .i64 p.ver, .slice A7 n7 c7, .slice A8 n8 c8] 84) = w3 := ⟨_, rfl⟩
 have hx3 : Ext wr w3 := by rw [← hw3]; exact (Ext.refl wr).alloc _
 have hB3 : w3.heap[z12]? = some (.cells #[.int .i64 p.num, .int .i64 p.suf, .int .i64 p.ent, .int .i64 p.ver, .slice A7 n7 c7, .slice A8 n8 c8] 84 (0, 0)) := by rw [← hw3, ← hz12]; exact heap_alloc_new _ _
 have HX3 := Hd hx3
 have HX03 := Hd (HX0R.out.trans hx3)
 have HQP := Hd (fun X (hX : Ext w3 X) => (show (X.cell? ⟨z12, 0, none⟩ = some (.int .i64 p.num) ∧ X.cell? ⟨z12, 1, none⟩ = some (.int .i64 p.suf)) ∧ (X.cell? ⟨z12, 2, none⟩ = some (.int .i64 p.ent) ∧ X.cell? ⟨z12, 3, none⟩ = some (.int .i64 p.ver)) ∧ X.cell? ⟨z12, 4, none⟩ = some (.slice A7 n7 c7) ∧ X.cell? ⟨z12, 5, none⟩ = some (.slice A8 n8 c8) from
  have h9 := (hX.block _ (lt_of_block hB3)).trans hB3
  ⟨⟨cof h9 (i := 0) rfl, cof h9 (i := 1) rfl⟩, ⟨cof h9 (i := 2) rfl, cof h9 (i := 3) rfl⟩, cof h9 (i := 4) rfl, cof h9 (i := 5) rfl⟩))
 obtain ⟨a0, a1, a2⟩ := HQ0.out _ HX03.out
 obtain ⟨⟨e0, e1⟩, ⟨e2, e3⟩, e4, e5⟩ := HQP.out _ (Ext.refl _)
 clear hx3 hB3
 go_upto_region 9 with (first | (go_at_call 59; refine (HTY.out _ HX03.out).mono ?_; rintro e w4 ⟨A5, n5, c5, A6, n6, c6, okt, rfl, hr5, hr6, hx4⟩; have HX4 := Hd hx4; have HR5 := Hd hr5; have HR6 := Hd hr6; clear hx4 hr5 hr6))
 clear hw3 hz12 a0 a1 a2 e0 e1 e2 e3 e4 e5 x0 x1 x2 x3 x4 x5
 obtain ⟨w5, hw5⟩ : ∃ w5, w4.alloc (.cells #[.slice A5 n5 c5, .slice A6 n6 c6] 53) = w5 := ⟨_, rfl⟩
 obtain ⟨z13, hz13⟩ : ∃ z13, w4.heap.size = z13 := ⟨_, rfl⟩
 have hx5 : Ext w4 w5 := by rw [← hw5]; exact (Ext.refl w4).alloc _
 have hB5 : w5.heap[z13]? = some (.cells #[.slice A5 n5 c5, .slice A6 n6 c6] 53 (0, 0)) := by rw [← hw5, ← hz13]; exact heap_alloc_new _ _
 rw [hw5, hz13]
 have HX35 := Hd (HX4.out.trans hx5)
 have HXR5 := Hd (HX3.out.trans (HX4.out.trans hx5))
 have HB5 := Hd hB5
 have HR5 := Hd (fun X (hX : Ext w5 X) => Lay.row_ext HR5.out (hx5.trans hX))
 have HR6 := Hd (fun X (hX : Ext w5 X) => Lay.row_ext HR6.out (hx5.trans hX))
 clear hx5 hB5 hw5 hz13
 obtain ⟨A9, c9, w6, hrun, ho, hb, _, hs6, _⟩ := own_appR (k := kLn) (Pr := Tryz.prog) (t := 82) (e := 86) Tryz.underlying82 info86 rfl (by decide) (by omega) (Lay.own_nil kLn 86 w5 w5.heap.size (fun j => j < w5.heap.size)) (A := A7) (m := n7) (ys := p.body) (Lay.row_mono (HR7.out w5 (HXR.out.trans HXR5.out)) fun j _ hj => ⟨hj, by simp [Value.ownBlock]⟩) c7 (by simp; omega) (Nat.le_refl _)
 rw [List.length_nil, Nat.zero_add] at hrun ho
 rw [List.nil_append] at ho
 have hx56 : Ext w5 w6 := hb _ (Nat.le_refl _)
 have HRUN := Hd hrun
 have HX56 := Hd hx56
 have hlt6 := Lay.own_lt ho
 obtain ⟨A10, c10, w7, hrun2, ho2, hb2, _, hs7, _⟩ := own_appR (k := kLn) (Pr := Tryz.prog) (t := 82) (e := 86) Tryz.underlying82 info86 rfl (by decide) (by omega) ho (A := A8) (m := n8) (ys := p.nts) (Lay.row_mono (Lay.row_ext (Lay.row_mono (HR8.out w5 (HXR.out.trans HXR5.out)) (Q := fun j => j < w5.heap.size) fun j _ hj => hj) hx56) fun j hj _ => ⟨hj, fun e9 => by have := (hlt6 j e9).1; omega⟩) c8 (by have := HL78.out; omega) hx56.lt
 rw [← HL78.out.1] at hrun2 ho2
 obtain ⟨L, hL⟩ : ∃ L, n7 + n8 = L := ⟨_, rfl⟩
 rw [hL] at hrun2 ho2 hn78
 have HRUN2 := Hd hrun2
 have HX57 := Hd (show Ext w5 w7 from Below.trans hx56 (hb2 _ (Nat.le_refl _)))
 obtain ⟨xs, hxs⟩ : ∃ xs, p.body ++ p.nts = xs := ⟨_, rfl⟩
 rw [hxs] at ho2 HHI HRNG
 have HLL := Hd (show L = xs.length by rw [← hxs, List.length_append]; have := HL78.out; omega)
 have HLR := Hd (own_rowQ ho2).2
 clear hrun ho hb hs6 hlt6 hrun2 ho2 hb2 hs7 hx56 hxs hL
 have e4 := (HQP.out _ HX35.out).2.2.1
 go_upto_region 10 with (first | (at_builtin; refine wpList_append_run HRUN.out rfl rfl rfl rfl rfl ?_))
 clear e4
 have e5 := (HQP.out _ (HX35.out.trans HX56.out)).2.2.2
 go_wp2_with (first | (at_builtin; refine wpList_append_run HRUN2.out rfl rfl rfl rfl rfl ?_))
 clear e5
 have HXR7 := Hd (HXR5.out.trans HX57.out)
 have HX37 := Hd (HX35.out.trans HX57.out)
 have HX07 := Hd (HX0R.out.trans HXR7.out)
 rw [← HLL.out] at HHI
 have hhs := HLEN.out i
 obtain ⟨hs, hhse⟩ : ∃ hs, hsI br tb ls b i = hs := ⟨_, rfl⟩
 rw [hhse] at hhs HT HHI
 clear hhse
 go_loopw [9, 16] (fun s9 s16 W => RiA w7 L (fun k => hs ++ hitL br tb ls t p xs k) s9 s16 W) (fun _ s16 _ => toM L s16)
 case atStart => exact ⟨0, Nat.zero_le _, rfl, ⟨A1, n1, c1, rfl, by have h9 := HT.out.ext HXR7.out; simpa [hitL] using h9⟩, Ext.refl _⟩
 rename World => wq
 obtain ⟨k, hk, rfl, ⟨B1, m1, d1, rfl, hT2⟩, hxq⟩ := hrel
 have HT2 := Hd (show TbV wq B1 m1 d1 (tabP (hs ++ hitL br tb ls t p xs k)) (hs ++ hitL br tb ls t p xs k).length from hT2)
 have HXQ := Hd hxq
 clear hT2 hxq
 have hwk : IntKind.i64.wrap ((k : Int) + 1) = (k : Int) + 1 := IntWalk.i64_in _ (by omega)
 by_cases hkl : k < L
 case neg =>
  obtain rfl : k = L := by omega
  have hnk : ¬ ((k : Int) < (k : Int)) := by omega
  have HREL := Hd (show RiA w2 np (hsI br tb ls b) (.slice B1 m1 d1) (.int .i64 ((i : Int) + 1)) wq from ⟨i + 1, by omega, by simp, ⟨B1, m1, d1, rfl, by rw [HHI.out]; exact HT2.out⟩, HXR.out.trans (HXR7.out.trans HXQ.out)⟩)
  go_wp2_with fail
  go_roundw
  case rel => exact HREL.out
  case measure => simp only [toM]; omega
 have hkI : (k : Int) < (L : Int) := by omega
 obtain ⟨l, hl⟩ : ∃ l, xs[k]? = some l := ⟨_, List.getElem?_eq_getElem (by have := HLL.out; omega)⟩
 have hrg := HRNG.out l (List.mem_of_getElem? hl)
 obtain ⟨gl, ol, cs, rfl, hgl, _, hrep, hcs⟩ := Lay.row_at HLR.out hl
 obtain ⟨A3, n3, c3, A4, n4, c4, rfl, _, _, _, _⟩ := kLn_rep.1 hrep
 have HQL := Hd (fun X (hX : Ext w7 X) => (show X.cell? ⟨gl, ol + k * 4, none⟩ = some (.int .i64 l.fr) ∧ X.cell? ⟨gl, ol + k * 4 + 1, none⟩ = some (.int .i64 l.un) from by
  have s0 := hcs 0 _ rfl
  have s1 := hcs 1 _ rfl
  rw [kLn_sz] at s0 s1
  rw [Nat.add_zero] at s0
  exact ⟨(hX.cells.1 gl _ hgl).trans s0, (hX.cells.1 gl _ hgl).trans s1⟩))
 have HLK := Hd (show hs ++ hitL br tb ls t p xs (k + 1) = (hs ++ hitL br tb ls t p xs k) ++ hitN br tb ls t p k l.fr (l.un - l.fr).toNat by rw [hitL_succ br tb ls t p hl, ← List.append_assoc]; rfl)
 have hhk : (hitL br tb ls t p xs k).length ≤ 4000 := Nat.le_trans (hitL_len br tb ls t p xs HRNG.out k) (by omega)
 have hhs2 : (hs ++ hitL br tb ls t p xs k).length ≤ 16004000 := by rw [List.length_append]; omega
 have HNXT := Hd (fun W s9 (h1 : TbA (hs ++ hitL br tb ls t p xs (k + 1)) s9 W) (h2 : Ext w7 W) => show RiA w7 L (fun k => hs ++ hitL br tb ls t p xs k) s9 (.int .i64 ((k : Int) + 1)) W from ⟨k + 1, by omega, by simp, h1, h2⟩)
 obtain ⟨hs2, hhs2e⟩ : ∃ hs2, hs ++ hitL br tb ls t p xs k = hs2 := ⟨_, rfl⟩
 rw [hhs2e] at HT2 HLK hhs2
 rw [HLK.out] at HNXT
 clear hhs2e hhk hl hrep hcs hgl
 obtain ⟨lfr, hlfr⟩ : ∃ lfr, l.fr = lfr := ⟨_, rfl⟩
 obtain ⟨lun, hlun⟩ : ∃ lun, l.un = lun := ⟨_, rfl⟩
 unfold RngL at hrg
 rw [hlfr] at HLK HNXT HQL hrg
 rw [hlun] at HLK HNXT HQL hrg
 obtain ⟨hrg1, hrg2, hrg3⟩ := hrg
 clear hlfr hlun
 obtain ⟨x0, x1⟩ := HQL.out _ HXQ.out
 go_upto_region 15 with (fail)
 clear x0 x1
 go_wp2_with fail
 go_loopw [9, 17] (fun s9 s17 W => RiN w7 lfr lun (fun m => hs2 ++ hitN br tb ls t p k lfr m) s9 s17 W) (fun _ s17 _ => itM lun s17)
 case atStart => exact ⟨0, by omega, by simp, ⟨B1, m1, d1, rfl, by have h9 := HT2.out; simpa [hitN] using h9⟩, HXQ.out⟩
 rename World => wv
 obtain ⟨m, hm, rfl, ⟨D1, q1, g1, rfl, hT3⟩, hxv⟩ := hrel
 have HT3 := Hd (show TbV wv D1 q1 g1 (tabP (hs2 ++ hitN br tb ls t p k lfr m)) (hs2 ++ hitN br tb ls t p k lfr m).length from hT3)
 have HXV := Hd hxv
 obtain ⟨nn, hnn⟩ : ∃ nn, lfr + (m : Int) = nn := ⟨_, rfl⟩
 rw [hnn]
 have HNN := Hd hnn
 have hml : (hitN br tb ls t p k lfr m).length ≤ m := hitN_len br tb ls t p k lfr m
 have hlen3 : (hs2 ++ hitN br tb ls t p k lfr m).length ≤ 16005000 := by rw [List.length_append]; omega
 have HST := Hd (show hs2 ++ hitN br tb ls t p k lfr (m + 1) = (hs2 ++ hitN br tb ls t p k lfr m) ++ hitW br tb ls t p k nn by rw [hitN_succ, ← List.append_assoc, hnn])
 obtain ⟨x0, x1⟩ := HQL.out _ hxv
 clear hT3 hxv hnn hml
 by_cases hnu : nn < lun
 case neg =>
  have hmE : m = (lun - lfr).toNat := by have := HNN.out; omega
  subst hmE
  have HREL := Hd (HNXT.out wv _ ⟨D1, q1, g1, rfl, HT3.out⟩ HXV.out)
  go_wp2_with fail
  go_roundw
  case rel => exact HREL.out
  case measure => simp only [toM]; omega
 have hwn : IntKind.i64.wrap (nn + 1) = nn + 1 := IntWalk.i64_in _ (by have := HNN.out; omega)
 have HMS := Hd (fun W s9 (h1 : TbA ((hs2 ++ hitN br tb ls t p k lfr m) ++ hitW br tb ls t p k nn) s9 W) (h2 : Ext w7 W) => show RiN w7 lfr lun (fun m => hs2 ++ hitN br tb ls t p k lfr m) s9 (.int .i64 (nn + 1)) W from ⟨m + 1, by have := HNN.out; omega, by have := HNN.out; congr 1; simp only [Int.natCast_add]; omega, by show TbA (hs2 ++ hitN br tb ls t p k lfr (m + 1)) s9 W; rw [HST.out]; exact h1, h2⟩)
 obtain ⟨hs3, hhs3⟩ : ∃ hs3, hs2 ++ hitN br tb ls t p k lfr m = hs3 := ⟨_, rfl⟩
 rw [hhs3] at HT3 HMS hlen3
 clear hhs3 HST hm
 have HW5 := Hd (HX57.out.trans HXV.out)
 have HWD := Hd (word60_any _ wv A5 A6 n5 n6 c5 c6 t nn (HR5.out _ HW5.out) (HR6.out _ HW5.out) (by have := Lay.row_len (HR5.out _ HW5.out); have := HSM.out.1; omega) (by have := Lay.row_len (HR6.out _ HW5.out); have := HSM.out.2.1; omega) HSM.out.2.2.1)
 have HKL := Hd (show ((wordT t nn).getD noWd).key.length ≤ 1000 from by
  cases ho : wordT t nn with
  | none => exact Nat.zero_le _
  | some y => exact HSM.out.2.2.2 nn y ho)
 have HHW := Hd (hitW_getD br tb ls t p k nn)
 unfold wdR wdV at HWD
 obtain ⟨okw, hokw⟩ : ∃ okw, (wordT t nn).isSome = okw := ⟨_, rfl⟩
 obtain ⟨y, hy⟩ : ∃ y, (wordT t nn).getD noWd = y := ⟨_, rfl⟩
 rw [hy] at HWD HKL HHW
 rw [hokw] at HWD
 clear hokw hy
 have hd5 := (HW5.out.block _ (lt_of_block HB5.out)).trans HB5.out
 have t0 := cof hd5 (i := 0) rfl
 have t1 := cof hd5 (i := 1) rfl
 clear hd5
 go_upto_region 18 with (first | (go_at_call 60; refine (HWD.out).mono ?_; rintro e w8 ⟨rfl, hx8⟩; have HX8 := Hd hx8; clear hx8))
 clear t0 t1 x0 x1
 obtain ⟨w9, hw9⟩ : ∃ w9, w8.alloc (.cells #[.string ⟨y.s.toArray⟩, .string ⟨y.key.toArray⟩, .int .i64 y.tb, .int .i64 y.nt] 60) = w9 := ⟨_, rfl⟩
 obtain ⟨z18, hz18⟩ : ∃ z18, w8.heap.size = z18 := ⟨_, rfl⟩
 have hx9 : Ext w8 w9 := by rw [← hw9]; exact (Ext.refl w8).alloc _
 have hB9 : w9.heap[z18]? = some (.cells #[.string ⟨y.s.toArray⟩, .string ⟨y.key.toArray⟩, .int .i64 y.tb, .int .i64 y.nt] 60 (0, 0)) := by rw [← hw9, ← hz18]; exact heap_alloc_new _ _
 rw [hw9, hz18]
 have HX9 := Hd (HX8.out.trans hx9)
 have HX79 := Hd (HXV.out.trans (HX8.out.trans hx9))
 have HB9 := Hd hB9
 have g1' := cof hB9 (i := 1) rfl
 have g2' := cof hB9 (i := 2) rfl
 clear hx9 hB9 hw9 hz18
 have HNO := Hd (show hitW br tb ls t p k nn = [] → ∀ Y, Ext w9 Y → RiN w7 lfr lun (fun m => hs2 ++ hitN br tb ls t p k lfr m) (.slice D1 q1 g1) (.int .i64 (nn + 1)) Y from fun h0 Y hY => HMS.out Y _ (by rw [h0, List.append_nil]; exact ⟨D1, q1, g1, rfl, HT3.out.ext (HX9.out.trans hY)⟩) (HX79.out.trans hY))
 by_cases hk0 : y.key = []
 ·have HREL := Hd (HNO.out (by rw [HHW.out, if_neg (by simp [hk0])]) w9 (Ext.refl _))
  rw [hk0] at g1'
  clear hk0
  go_wp2_with fail
  go_roundw
  case rel => exact HREL.out
  case measure => simp only [itM]; omega
 have hkb : (y.key == []) = false := by simpa using hk0
 by_cases ht0 : y.tb = tb
 case neg =>
  have HREL := Hd (HNO.out (by rw [HHW.out, if_neg (by simp [ht0])]) w9 (Ext.refl _))
  have htb : (y.tb == tb) = false := by simpa using ht0
  clear hk0 ht0
  go_wp2_with fail
  go_roundw
  case rel => exact HREL.out
  case measure => simp only [itM]; omega
 have htb : (y.tb == tb) = true := by simpa using ht0
 obtain ⟨⟨e0, e1⟩, ⟨e2, e3⟩, _, _⟩ := HQP.out _ (HX37.out.trans HX79.out)
 have HG9 := Hd (HGR.out w9 (HX07.out.trans HX79.out) p.ent p.ver nn)
 cases hsl9 : seald ls p.ent p.ver nn with
 | true =>
  have HNR := Hd (HNO.out (by rw [HHW.out, if_neg (by simp [hsl9])]))
  rw [hsl9] at HG9
  clear hk0 ht0 hsl9
  go_wp2_with (first | (go_at_call 61; refine (HG9.out).mono ?_; rintro e w10 ⟨g, rfl, hg, hx10⟩; have HX10 := Hd hx10; have hg0 : (g == 0) = false := beq_eq_false_iff_ne.2 (fun e9 => absurd (hg.1 e9) (by decide)); clear hg hx10))
  go_roundw
  case rel => exact HNR.out _ HX10.out
  case measure => simp only [itM]; omega
 | false =>
  have HW1 := Hd (show hitW br tb ls t p k nn = [(y.key, ⟨br, p.num, p.suf, (k : Int) + 1⟩)] by rw [HHW.out, if_pos ⟨hk0, ht0, hsl9⟩])
  rw [hsl9] at HG9
  clear hk0 ht0 hsl9
  go_upto_region 19 with (first | (go_at_call 61; refine (HG9.out).mono ?_; rintro e w10 ⟨g, rfl, hg, hx10⟩; have HX10 := Hd hx10; obtain rfl : g = 0 := hg.2 rfl; clear hg hx10))
  clear e0 e1 e2 e3 g1' g2'
  obtain ⟨⟨e0, e1⟩, _⟩ := HQP.out _ (HX37.out.trans (HX79.out.trans HX10.out))
  have g1' := cof ((HX10.out.block _ (lt_of_block HB9.out)).trans HB9.out) (i := 1) rfl
  have HPU := Hd (put_tb (HT3.out.ext (HX9.out.trans HX10.out)) (by omega) y.key HKL.out ⟨br, p.num, p.suf, (k : Int) + 1⟩)
  go_wp2_with (first | (go_at_call 62; refine (HPU.out).mono ?_; rintro e w11 ⟨E1, u1, v1, rfl, hT4, hx11⟩; have HT4 := Hd hT4; have HX11 := Hd hx11; clear hT4 hx11))
  have HREL := Hd (HMS.out w11 (.slice E1 u1 v1) (by rw [HW1.out]; exact ⟨E1, u1, v1, rfl, by rw [tabP_snoc, List.length_append]; exact HT4.out⟩) (HX79.out.trans (HX10.out.trans HX11.out)))
  go_roundw
  case rel => exact HREL.out
  case measure => simp only [itM]; omega
end
section
open Go Go.RowKit
attribute [local go_sem] Oper.semAt_some
set_option maxHeartbeats 8000000 in
set_option maxRecDepth 100000 in
theorem items_law (A A' : Option Addr) (c c' : Nat) (l l' : List Int) (br tb : Int) (w : World) (h : IL w A c l) (hl : l.length ≤ 9223372036854775807) (h' : IL w A' c' l') (hl' : l'.length ≤ 9223372036854775807)
  (htb : -9223372036854775808 ≤ tb ∧ tb ≤ 9223372036854775807) (hL : EnvW w) :
  Calls Tryz.prog 3 #[.agg #[.slice A l.length c, .slice A' l'.length c', .int .i64 br, .int .i64 tb]] w fun e w' => e = .returned (.bool true) ∧ Ext w w' := by
 have HLV := Hd (fun X (hX : Ext w X) => lives31_any X (hL.ext hX))
 have HL := Hd (fun X (hX : Ext w X) => hL.ext hX)
 have HMA := Hd (fun X (hX : Ext w X) => made_any A A' c c' l l' br tb X (h.ext hX) hl (h'.ext hX) hl')
 have HTB := Hd (fun X => around3_fn tb 2 X htb.1 htb.2 (by omega) (by omega))
 clear h h' hl hl' htb hL
 obtain ⟨n1, hn1⟩ : ∃ n1, l.length = n1 := ⟨_, rfl⟩
 obtain ⟨n2, hn2⟩ : ∃ n2, l'.length = n2 := ⟨_, rfl⟩
 rw [hn1, hn2] at HMA ⊢
 clear hn1 hn2
 obtain ⟨t, ht⟩ : ∃ t, arnd tb 2 = t := ⟨_, rfl⟩
 rw [ht] at HTB
 clear ht
 obtain ⟨z, hz⟩ : ∃ z, w.heap.size = z := ⟨_, rfl⟩
 obtain ⟨w1, hw1⟩ : ∃ w1, w.alloc (.cells #[.slice A n1 c, .slice A' n2 c', .int .i64 br, .int .i64 tb] 24) = w1 := ⟨_, rfl⟩
 have hx1 : Ext w w1 := by rw [← hw1]; exact (Ext.refl w).alloc _
 have hB1 : w1.heap[z]? = some (.cells #[.slice A n1 c, .slice A' n2 c', .int .i64 br, .int .i64 tb] 24 (0, 0)) := by rw [← hw1, ← hz]; exact heap_alloc_new _ _
 have HX1 := Hd hx1
 have HB1 := Hd hB1
 have a0 := cof hB1 (i := 0) rfl
 have a1 := cof hB1 (i := 1) rfl
 have a2 := cof hB1 (i := 2) rfl
 have a3 := cof hB1 (i := 3) rfl
 clear hx1 hB1
 go_enter Tryz.func3, Tryz.ntmps3
 go_upto_region 1 with (fail)
 clear hw1 hz
 go_wp2_with fail
 refine (HMA.out _ HX1.out).mono ?_
 rintro e w2 ⟨b, B, N, cB, S, m, cS, ls, rfl, hok, hnc, hr, hmc, hrs, hlm, hgs, hx2⟩
 have HOK := Hd hok.okB
 have HX2 := Hd hx2
 have HM := Hd (Lay.row_len hrs)
 have HMC := Hd hmc
 have HLM := Hd hlm
 have HGS := Hd hgs
 have HSA := Hd (fun e => row_A hrs e)
 obtain ⟨g, hg⟩ : ∃ g, w2.heap.size = g := ⟨_, rfl⟩
 obtain ⟨w3, hw3⟩ : ∃ w3, w2.alloc (.cells #[.int .i64 b.ms, .int .i64 b.ht, .slice B N cB] 27) = w3 := ⟨_, rfl⟩
 have hx23 : Ext w2 w3 := by rw [← hw3]; exact (Ext.refl w2).alloc _
 have hB3 : w3.heap[g]? = some (.cells #[.int .i64 b.ms, .int .i64 b.ht, .slice B N cB] 27 (0, 0)) := by rw [← hw3, ← hg]; exact heap_alloc_new _ _
 have HX3 := Hd (hx2.trans hx23)
 have HB3 := Hd hB3
 have HR := Hd (fun X (hX : Ext w3 X) => Lay.row_ext hr (hx23.trans hX))
 have HRS := Hd (fun X (hX : Ext w3 X) => Lay.row_ext hrs (hx23.trans hX))
 have HEV := Hd (fun X (hX : Ext w3 X) => HL.out X (HX1.out.trans (HX3.out.trans hX)))
 have HQ := Hd (fun X (hX : Ext w3 X) => (show (X.cell? ⟨z, 2, none⟩ = some (.int .i64 br) ∧ X.cell? ⟨z, 3, none⟩ = some (.int .i64 tb)) ∧ X.cell? ⟨g, 0, none⟩ = some (.int .i64 b.ms) ∧ X.cell? ⟨g, 1, none⟩ = some (.int .i64 b.ht) ∧ X.cell? ⟨g, 2, none⟩ = some (.slice B N cB) from
  have h9 := (hX.block _ (lt_of_block HB3.out)).trans HB3.out
  have h8 := ((HX3.out.trans hX).block _ (lt_of_block HB1.out)).trans HB1.out
  ⟨⟨cof h8 (i := 2) rfl, cof h8 (i := 3) rfl⟩, cof h9 (i := 0) rfl, cof h9 (i := 1) rfl, cof h9 (i := 2) rfl⟩))
 clear a0 a1 a2 a3 hx2 hx23 hB3 hr hrs hok hmc hlm hgs
 go_upto_region 2 with (fail)
 clear hw3 hg
 have HM8 := Hd (show m ≤ 1000000 from by have := HM.out; have := HLM.out; omega)
 have HIA := Hd (fun X (hX : Ext w3 X) (tt : Int) => items_mk X b br tt ls B S N cB m cS _ _ HOK.out (HR.out X hX) (HRS.out X hX) HM8.out HGS.out (HEV.out X hX))
 have HIR := Hd (fun X (hX : Ext w3 X) (tt : Int) => ritems_any _ _ X b br tt ls B S N cB m cS HOK.out (HR.out X hX) (HRS.out X hX) HM8.out HGS.out)
 have HLR := Hd (fun X (hX : Ext w3 X) => HLV.out X (HX1.out.trans (HX3.out.trans hX)))
 have HXW := Hd (HX1.out.trans HX3.out)
 obtain ⟨⟨a2, a3⟩, p0, p1, p2⟩ := HQ.out _ (Ext.refl _)
 go_upto_region 3 with (first | (go_at_call 17; refine (HTB.out _).mono ?_; rintro e w9 ⟨rfl, rfl⟩))
 clear a2 a3 p0 p1 p2
 have hcur : Ext w3 w3.drew := (Ext.refl _).drew
 have hS0 : (fun X : World => (X.cell? ⟨z, 2, none⟩ = some (.int .i64 br) ∧ X.cell? ⟨z, 3, none⟩ = some (.int .i64 tb)) ∧ X.cell? ⟨g, 0, none⟩ = some (.int .i64 b.ms) ∧ X.cell? ⟨g, 1, none⟩ = some (.int .i64 b.ht) ∧ X.cell? ⟨g, 2, none⟩ = some (.slice B N cB)) w3.drew := HQ.out _ hcur
 refine wp_region_E (fun X : World => (X.cell? ⟨z, 2, none⟩ = some (.int .i64 br) ∧ X.cell? ⟨z, 3, none⟩ = some (.int .i64 tb)) ∧ X.cell? ⟨g, 0, none⟩ = some (.int .i64 b.ms) ∧ X.cell? ⟨g, 1, none⟩ = some (.int .i64 b.ht) ∧ X.cell? ⟨g, 2, none⟩ = some (.slice B N cB)) (fun _ => True) (fun i => i == 99) (by kernel_rfl) ?_
 refine wpE_tk 0 14 (.agg #[.int .i64 b.ms, .int .i64 b.ht, .slice B N cB]) hS0 ?_ ?_
 ·intro w9 hT9; obtain ⟨⟨y0, y1⟩, y2, y3, y4⟩ := hT9; go_simp
 (try simp only [Act.put, ptA, ptB, ptC])
 refine wpE_tk 1 15 (.pointer (some ⟨z, 2, none⟩)) hS0 ?_ ?_
 ·intro w9 hT9; clear hT9; go_simp
 (try simp only [Act.put, ptA, ptB, ptC])
 refine wpE_tk 2 16 (.int .i64 br) hS0 ?_ ?_
 ·intro w9 hT9; obtain ⟨⟨y0, y1⟩, y2, y3, y4⟩ := hT9; go_simp
 (try simp only [Act.put, ptA, ptB, ptC])
 refine wpE_tk 3 17 (.int .i64 t) hS0 ?_ ?_
 ·intro w9 hT9; clear hT9; go_simp
 (try simp only [Act.put, ptA, ptB, ptC])
 refine wpE_tk 4 18 (.slice S m cS) hS0 ?_ ?_
 ·intro w9 hT9; clear hT9; go_simp
 (try simp only [Act.put, ptA, ptB, ptC])
 refine wpE_tk 6 20 (.agg #[.int .i64 b.ms, .int .i64 b.ht, .slice B N cB]) hS0 ?_ ?_
 ·intro w9 hT9; obtain ⟨⟨y0, y1⟩, y2, y3, y4⟩ := hT9; go_simp
 (try simp only [Act.put, ptA, ptB, ptC])
 refine wpE_tk 7 21 (.pointer (some ⟨z, 2, none⟩)) hS0 ?_ ?_
 ·intro w9 hT9; clear hT9; go_simp
 (try simp only [Act.put, ptA, ptB, ptC])
 refine wpE_tk 8 22 (.int .i64 br) hS0 ?_ ?_
 ·intro w9 hT9; obtain ⟨⟨y0, y1⟩, y2, y3, y4⟩ := hT9; go_simp
 (try simp only [Act.put, ptA, ptB, ptC])
 refine wpE_tk 9 23 (.int .i64 t) hS0 ?_ ?_
 ·intro w9 hT9; clear hT9; go_simp
 (try simp only [Act.put, ptA, ptB, ptC])
 refine wpE_tk 10 24 (.slice S m cS) hS0 ?_ ?_
 ·intro w9 hT9; clear hT9; go_simp
 (try simp only [Act.put, ptA, ptB, ptC])
 refine wal (rs := [5]) (by kernel_rfl) (by simp) ?_
 refine AllE.cons rfl (fun K hK => ?_) AllE.nil
 simp only [List.getElem_toArray, List.getElem_cons_succ, List.getElem_cons_zero]
 go_simp
 go_at_call 19
 refine (HIA.out _ hcur t).mono ?_
 rintro z9 wa1 ⟨Aa1, na1, ca1, rfl, hTa1, hxa1⟩
 have hcur := hcur.trans hxa1
 simp only []
 refine hK.out _ _ ⟨fun _ => (HQ.out _ hcur), trivial⟩ (fun _ => ?_)
 clear hK K
 have hS0 := (HQ.out _ hcur)
 (try simp only [Act.put, ptA, ptB, ptC])
 refine wal (rs := [11]) (by kernel_rfl) (by simp) ?_
 refine AllE.cons rfl (fun K hK => ?_) AllE.nil
 simp only [List.getElem_toArray, List.getElem_cons_succ, List.getElem_cons_zero]
 go_simp
 go_at_call 20
 refine (HIR.out _ hcur t).mono ?_
 rintro z9 wa2 ⟨Aa2, na2, ca2, rfl, hTa2, hxa2⟩
 have hcur := hcur.trans hxa2
 simp only []
 refine hK.out _ _ ⟨fun _ => (HQ.out _ hcur), trivial⟩ (fun _ => ?_)
 clear hK K
 have hS0 := (HQ.out _ hcur)
 (try simp only [Act.put, ptA, ptB, ptC])
 refine wal (rs := [12]) (by kernel_rfl) (by simp) ?_
 refine AllE.cons rfl (fun K hK => ?_) AllE.nil
 simp only [List.getElem_toArray, List.getElem_cons_succ, List.getElem_cons_zero]
 go_simp
 go_at_call 18
 refine (same_tb (hTa1.ext hxa2) hTa2 (by omega) (by omega) true (decide_eq_true rfl)).mono ?_
 rintro z9 wq1 ⟨rfl, hxq1⟩
 have hcur := hcur.trans hxq1
 simp only []
 refine hK.out _ _ ⟨fun _ => (HQ.out _ hcur), trivial⟩ (fun _ => ?_)
 clear hK K
 have hS0 := (HQ.out _ hcur)
 (try simp only [Act.put, ptA, ptB, ptC])
 refine wpE_tk 13 27 (.bool true) hS0 ?_ ?_
 ·intro w9 hT9; clear hT9; go_simp
 (try simp only [Act.put, ptA, ptB, ptC])
 refine wpE_tk 14 28 (.agg #[.int .i64 b.ms, .int .i64 b.ht, .slice B N cB]) hS0 ?_ ?_
 ·intro w9 hT9; obtain ⟨⟨y0, y1⟩, y2, y3, y4⟩ := hT9; go_simp
 (try simp only [Act.put, ptA, ptB, ptC])
 refine wpE_tk 15 29 (.pointer (some ⟨z, 2, none⟩)) hS0 ?_ ?_
 ·intro w9 hT9; clear hT9; go_simp
 (try simp only [Act.put, ptA, ptB, ptC])
 refine wpE_tk 16 30 (.int .i64 br) hS0 ?_ ?_
 ·intro w9 hT9; obtain ⟨⟨y0, y1⟩, y2, y3, y4⟩ := hT9; go_simp
 (try simp only [Act.put, ptA, ptB, ptC])
 refine wpE_tk 17 31 (.pointer (some ⟨z, 3, none⟩)) hS0 ?_ ?_
 ·intro w9 hT9; clear hT9; go_simp
 (try simp only [Act.put, ptA, ptB, ptC])
 refine wpE_tk 18 32 (.int .i64 tb) hS0 ?_ ?_
 ·intro w9 hT9; obtain ⟨⟨y0, y1⟩, y2, y3, y4⟩ := hT9; go_simp
 (try simp only [Act.put, ptA, ptB, ptC])
 refine wpE_tk 19 33 (.slice S m cS) hS0 ?_ ?_
 ·intro w9 hT9; clear hT9; go_simp
 (try simp only [Act.put, ptA, ptB, ptC])
 refine wpE_tk 21 35 (.agg #[.int .i64 b.ms, .int .i64 b.ht, .slice B N cB]) hS0 ?_ ?_
 ·intro w9 hT9; obtain ⟨⟨y0, y1⟩, y2, y3, y4⟩ := hT9; go_simp
 (try simp only [Act.put, ptA, ptB, ptC])
 refine wpE_tk 22 36 (.pointer (some ⟨z, 2, none⟩)) hS0 ?_ ?_
 ·intro w9 hT9; clear hT9; go_simp
 (try simp only [Act.put, ptA, ptB, ptC])
 refine wpE_tk 23 37 (.int .i64 br) hS0 ?_ ?_
 ·intro w9 hT9; obtain ⟨⟨y0, y1⟩, y2, y3, y4⟩ := hT9; go_simp
 (try simp only [Act.put, ptA, ptB, ptC])
 refine wpE_tk 24 38 (.pointer (some ⟨z, 3, none⟩)) hS0 ?_ ?_
 ·intro w9 hT9; clear hT9; go_simp
 (try simp only [Act.put, ptA, ptB, ptC])
 refine wpE_tk 25 39 (.int .i64 tb) hS0 ?_ ?_
 ·intro w9 hT9; obtain ⟨⟨y0, y1⟩, y2, y3, y4⟩ := hT9; go_simp
 (try simp only [Act.put, ptA, ptB, ptC])
 refine wpE_tk 26 40 (.slice S m cS) hS0 ?_ ?_
 ·intro w9 hT9; clear hT9; go_simp
 (try simp only [Act.put, ptA, ptB, ptC])
 refine wal (rs := [20]) (by kernel_rfl) (by simp) ?_
 refine AllE.cons rfl (fun K hK => ?_) AllE.nil
 simp only [List.getElem_toArray, List.getElem_cons_succ, List.getElem_cons_zero]
 go_simp
 go_at_call 19
 refine (HIA.out _ hcur tb).mono ?_
 rintro z9 wa3 ⟨Aa3, na3, ca3, rfl, hTa3, hxa3⟩
 have hcur := hcur.trans hxa3
 simp only []
 refine hK.out _ _ ⟨fun _ => (HQ.out _ hcur), trivial⟩ (fun _ => ?_)
 clear hK K
 have hS0 := (HQ.out _ hcur)
 (try simp only [Act.put, ptA, ptB, ptC])
 refine wal (rs := [27]) (by kernel_rfl) (by simp) ?_
 refine AllE.cons rfl (fun K hK => ?_) AllE.nil
 simp only [List.getElem_toArray, List.getElem_cons_succ, List.getElem_cons_zero]
 go_simp
 go_at_call 20
 refine (HIR.out _ hcur tb).mono ?_
 rintro z9 wa4 ⟨Aa4, na4, ca4, rfl, hTa4, hxa4⟩
 have hcur := hcur.trans hxa4
 simp only []
 refine hK.out _ _ ⟨fun _ => (HQ.out _ hcur), trivial⟩ (fun _ => ?_)
 clear hK K
 have hS0 := (HQ.out _ hcur)
 (try simp only [Act.put, ptA, ptB, ptC])
 refine wal (rs := [28]) (by kernel_rfl) (by simp) ?_
 refine AllE.cons rfl (fun K hK => ?_) AllE.nil
 simp only [List.getElem_toArray, List.getElem_cons_succ, List.getElem_cons_zero]
 go_simp
 go_at_call 18
 refine (same_tb (hTa3.ext hxa4) hTa4 (by omega) (by omega) true (decide_eq_true rfl)).mono ?_
 rintro z9 wq3 ⟨rfl, hxq3⟩
 have hcur := hcur.trans hxq3
 simp only []
 refine hK.out _ _ ⟨fun _ => (HQ.out _ hcur), trivial⟩ (fun _ => ?_)
 clear hK K
 have hS0 := (HQ.out _ hcur)
 (try simp only [Act.put, ptA, ptB, ptC])
 refine wpE_tk 29 43 (.bool true) hS0 ?_ ?_
 ·intro w9 hT9; clear hT9; go_simp
 (try simp only [Act.put, ptA, ptB, ptC])
 refine wpE_tk 30 44 (.bool true) hS0 ?_ ?_
 ·intro w9 hT9; clear hT9; go_simp
 (try simp only [Act.put, ptA, ptB, ptC])
 refine wal (rs := [31]) (by kernel_rfl) (by simp) ?_
 refine AllE.cons rfl (fun K hK => ?_) AllE.nil
 simp only [List.getElem_toArray, List.getElem_cons_succ, List.getElem_cons_zero]
 go_simp
 go_at_call 21
 refine (HLR.out _ hcur).mono ?_
 rintro z9 wl ⟨rfl, hxl⟩
 have hcur := hcur.trans hxl
 simp only []
 refine hK.out _ _ ⟨fun _ => (HQ.out _ hcur), trivial⟩ (fun _ => ?_)
 clear hK K
 have hS0 := (HQ.out _ hcur)
 (try simp only [Act.put, ptA, ptB, ptC])
 refine wpE_tk 32 46 (.bool true) hS0 ?_ ?_
 ·intro w9 hT9; clear hT9; go_simp
 (try simp only [Act.put, ptA, ptB, ptC])
 refine wal (rs := [33]) (by kernel_rfl) (by simp) ?_
 refine AllE.cons rfl (fun K hK => ?_) AllE.nil
 simp only [List.getElem_toArray, List.getElem_cons_succ, List.getElem_cons_zero]
 go_simp
 refine hK.out _ _ ⟨fun _ => (HQ.out _ hcur), trivial⟩ (fun _ => ?_)
 clear hK K
 have hS0 := (HQ.out _ hcur)
 (try simp only [Act.put, ptA, ptB, ptC])
 refine wpE_done (by kernel_rfl) ?_ _
 go_wp2
 go_ret
 exact ⟨rfl, HXW.out.trans hcur⟩
end
section
open Go Go.RowKit
theorem items_all (A A' : Option Addr) (c c' : Nat) (l l' : List Int) (br tb : Int) (w : World) (h : IL w A c l) (hl : l.length ≤ 9223372036854775807) (h' : IL w A' c' l') (hl' : l'.length ≤ 9223372036854775807) (_ : -9223372036854775808 ≤ br ∧ br ≤ 9223372036854775807)
  (htb : -9223372036854775808 ≤ tb ∧ tb ≤ 9223372036854775807) (hL : EnvW w) :
  Calls Tryz.prog 3 #[.agg #[.slice A l.length c, .slice A' l'.length c', .int .i64 br, .int .i64 tb]] w fun e w' => e = .returned (.bool true) ∧ Ext w w' :=
 items_law A A' c c' l l' br tb w h hl h' hl' htb hL
end
end Go.Proofs.YtdbnddmncbjobaaGreatDoor