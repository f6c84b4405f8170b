/- The reference's Lines: walked. -/
import Derived.Test.YtdbnddmncbjobaaGreatDoorMbk
namespace Go.Proofs.YtdbnddmncbjobaaGreatDoor
section
open Go Go.RowKit
set_option maxHeartbeats 8000000 in
set_option maxRecDepth 100000 in
theorem rlines2_any (P : Nat → Prop) (w : World) (t : Tx) (m : Int) (A A' : Option Addr) (n n' c c' : Nat) (h1 : kWs.row w P A n t.paras) (h2 : kWs.row w P A' n' t.notes) (hc : chkT t = 0) (hm0 : 500 ≤ m) (hm : m ≤ 2000) :
  Calls Tryz.prog 145 #[.agg #[.slice A n c, .slice A' n' c'], .int .i64 m] w (fun e w' => ∃ A1 c1 A2 c2, e = .returned (.tuple #[.slice A1 (linesT t m).2.1.length c1, .slice A2 (linesT t m).2.2.length c2, .int .i64 0]) ∧
   kLn.own 86 w' w.heap.size (fun j => w.heap.size ≤ j) (.slice A1 (linesT t m).2.1.length c1) (linesT t m).2.1 ∧ kLs.own 82 w' w.heap.size (fun j => w.heap.size ≤ j) (.slice A2 (linesT t m).2.2.length c2) (linesT t m).2.2 ∧ Ext w w') := by
 have HE1 := Hd (Lay.row_len h1)
 have HE2 := Hd (Lay.row_len h2)
 have HR1 := Hd h1
 have HR2 := Hd h2
 have HV := Hd (wsv_of hc)
 have HCK := Hd (fun X (hX : Ext w X) => rcheck_any P X t A A' n n' c c' (Lay.row_ext h1 hX) (Lay.row_ext h2 hX) hc)
 have HT := Hd (show linesT t m = (0, (setsP m t.paras 0).flatten, setsP m t.notes (t.paras.map List.length).sum) by
  unfold linesT
  rw [if_neg (by omega), if_neg (by omega)])
 have hnp := (chkT_val hc).np
 have hnn := (chkT_val hc).nn
 have m1 : ¬ m < 500 := by omega
 have m2 : ¬ (2000 : Int) < m := by omega
 clear h1 h2 hc
 go_enter Tryz.func145, Tryz.ntmps145
 go_upto_region 1 with (fail)
 obtain ⟨W0, hW0⟩ : ∃ W0, w.alloc (.cells #[.slice A n c, .slice A' n' c'] 53) = W0 := ⟨_, rfl⟩
 obtain ⟨z, hz⟩ : ∃ z, w.heap.size = z := ⟨_, rfl⟩
 have hx0 : Ext w W0 := by rw [← hW0]; exact (Ext.refl w).alloc _
 have hB0 : W0.heap[z]? = some (.cells #[.slice A n c, .slice A' n' c'] 53 (0, 0)) := by rw [← hW0, ← hz]; exact haA _ _ _ _ rfl
 rw [hW0, hz]
 have HX0 := Hd hx0
 have HCA := Hd (fun X (hX : Ext W0 X) => (show X.cell? ⟨z, 0, none⟩ = some (.slice A n c) ∧ X.cell? ⟨z, 1, none⟩ = some (.slice A' n' c') from
  have h9 := (hX.block _ (lt_of_block hB0)).trans hB0
  ⟨cof h9 (i := 0) rfl, cof h9 (i := 1) rfl⟩))
 have a0 := (HCA.out W0 (Ext.refl _)).1
 have a1 := (HCA.out W0 (Ext.refl _)).2
 clear hW0 hz hx0 hB0
 go_wp2_with (first | (go_at_call 178; refine (HCK.out _ HX0.out).mono ?_; rintro e w1 ⟨rfl, hx1⟩))
 have HX1 := Hd hx1
 have HX := Hd (HX0.out.trans hx1)
 clear a0 a1 hx1
 go_loopw [8, 9, 10] (fun s8 s9 s10 w' => LiB w1 m t.paras s8 s9 s10 w') (fun _ _ s10 _ => toM n s10)
 case atStart => exact ⟨0, 0, by omega, rfl, rfl, rfl, Ext.refl _, Lay.own_nil _ _ _ _ _⟩
 obtain ⟨i, F, hi, rfl, rfl, hF, hx, ho⟩ := hrel
 have HXr := Hd hx
 have HO := Hd ho
 have HF := Hd hF
 obtain ⟨c0, c1⟩ := HCA.out _ (HX1.out.trans hx)
 clear hx ho hF
 by_cases hlt : i < n
 case neg =>
  obtain rfl : n = i := by have := HE1.out; omega
  have hni : ¬ ((n : Int) < (n : Int)) := by omega
  obtain ⟨A1, c1', rfl, hl1, _⟩ := Lay.own_row HO.out
  have HTK := Hd (show t.paras.take n = t.paras by rw [HE1.out]; exact List.take_length)
  rw [HTK.out] at HO HF hl1
  have hww := Nat.le_trans HX.out.lt HXr.out.lt
  have HB := Hd (show kLn.own 86 wr w.heap.size (fun j => w.heap.size ≤ j ∧ j < wr.heap.size) (.slice A1 (setsP m t.paras 0).flatten.length c1') (setsP m t.paras 0).flatten from own_base (Lay.own_mono HO.out fun j hj hl => ⟨Nat.le_trans HX.out.lt hj, hl⟩) HX.out.lt)
  go_wp2_with fail
  obtain ⟨wb, hwb⟩ : ∃ wb, wb = wr := ⟨_, rfl⟩
  rw [← hwb] at HXr HB hww ⊢
  clear hwb HO
  go_loopw [9, 11, 12] (fun s9 s11 s12 w' => LiN wb m t.notes F s11 s9 s12 w') (fun _ _ s12 _ => toM n' s12)
  case atStart => exact ⟨0, F, by omega, rfl, rfl, by simp, Ext.refl _, Lay.own_nil _ _ _ _ _⟩
  clear c0 c1
  obtain ⟨i, F', hi, rfl, rfl, hF', hx, ho⟩ := hrel
  have HXn := Hd hx
  have HOn := Hd ho
  have HF' := Hd hF'
  obtain ⟨c0, c1⟩ := HCA.out _ (HX1.out.trans (HXr.out.trans hx))
  clear hx ho hF'
  by_cases hlt2 : i < n'
  case neg =>
   obtain rfl : n' = i := by have := HE2.out; omega
   have hni : ¬ ((n' : Int) < (n' : Int)) := by omega
   obtain ⟨A2, c2, rfl, _⟩ := Lay.own_row HOn.out
   have HTN := Hd (show t.notes.take n' = t.notes by rw [HE2.out]; exact List.take_length)
   rw [HTN.out] at HOn
   go_wp2_with fail
   refine bodyPost_ret (v := .tuple #[.slice A1 (setsP m (t.paras.take n) 0).flatten.length c1', .slice A2 (setsP m (t.notes.take n') F).length c2, .int .i64 0]) (by simp [results, Tryz.results145, go_sem, *]) rfl ?_
   rw [HTN.out, HTK.out, HF.out]
   have hT := HT.out
   rw [HF.out] at HOn
   have e1 : (linesT t m).2.1 = (setsP m t.paras 0).flatten := by rw [hT]
   have e2 : (linesT t m).2.2 = setsP m t.notes (t.paras.map List.length).sum := by rw [hT]
   rw [e1, e2]
   exact ⟨A1, c1', A2, c2, rfl, Lay.own_mono (Lay.own_keep HB.out HXn.out.lt fun j hj hl => HXn.out.block j hl) (fun j hj _ => hj.1), own_base (Lay.own_mono HOn.out fun j hj _ => by omega) hww, HX.out.trans (HXr.out.trans HXn.out)⟩
  have hI2 : (i : Int) < (n' : Int) := by omega
  obtain ⟨p, hp⟩ : ∃ p, t.notes[i]? = some p := ⟨_, List.getElem?_eq_getElem (by have := HE2.out; omega)⟩
  obtain ⟨b0, off, cs, rfl, hb0, _, hrep, hcell⟩ := Lay.row_at HR2.out hp
  obtain ⟨Ap, cp, rfl, hcp, hrp⟩ := kWs_rep.1 hrep
  have hce0 := hcell 0 _ rfl
  rw [kWs_sz, Nat.mul_one, Nat.add_zero] at hce0
  have HEL := Hd (fun X (hX : Ext w X) => (show X.cell? ⟨b0, off + i, none⟩ = some (.slice Ap p.length cp) from (hX.cells.1 b0 _ (World.block_lt_of_cell? _ _ hce0)).trans hce0))
  have hce := HEL.out _ (HX.out.trans (HXr.out.trans HXn.out))
  have hpv := HV.out p (List.mem_append_right _ (List.mem_of_getElem? hp))
  have hF5 : F ≤ 50000 := by
   have h9 := sumL_le t.paras fun q hq => (HV.out q (List.mem_append_left _ hq)).2
   rw [← HF.out] at h9
   omega
  have hF6 : F' ≤ 100000 := by
   have h9 := sumL_le (t.notes.take i) fun q hq => (HV.out q (List.mem_append_right _ (List.mem_of_mem_take hq))).2
   have := HF'.out
   rw [List.length_take] at h9
   omega
  rename World => wr2
  have HSET := Hd (rlines1_any P wr2 Ap p.length cp p (F' : Int) m (Lay.row_ext hrp (HX.out.trans (HXr.out.trans HXn.out))) hpv.1 hpv.2 (by omega) (by omega) hm0 hm)
  have hpl := hpv.2
  have HP := Hd hp
  clear hrep hrp hcell hpv hp hce0
  go_wp2_with fail
  refine HSET.out.mono ?_
  rintro e w2 ⟨As, cz, rfl, hos, hx2⟩
  have hlto := Lay.own_lt HOn.out
  obtain ⟨Ax, cx, e9, hcz, hrow⟩ := own_rowN (Q := fun j => wr2.heap.size ≤ j) hos (fun j hj _ => hj) (fun j hj _ => hj)
  have e9a : As = Ax := by injection e9
  have e9c : cz = cx := by injection e9
  rw [← e9a] at hrow
  rw [← e9c] at hcz
  clear e9 e9a e9c
  have hll : (setsP m (t.notes.take i) F).length ≤ 100 := by rw [setsP_len, List.length_take]; omega
  obtain ⟨A9, c9, w9, hrun, ho9, hb9, hk9, hs9, hn9⟩ := own_app1 (k := kLs) (Pr := Tryz.prog) (t := 162) Tryz.underlying162 info82 rfl (by decide) (by omega) (Lay.own_ext HOn.out hx2) (Nat.le_trans HXn.out.lt hx2.lt) (cs := #[.slice As (setP p (F' : Int) m).length cz]) (T := 82) (x := setP p (F' : Int) m) ⟨As, _, cz, rfl, hcz, Lay.row_mono hrow fun j hj _ => ⟨Nat.le_trans HXn.out.lt hj, fun e => by have := (hlto j e).2; omega⟩⟩ 1 (by omega)
  have HRUN := Hd hrun
  have hx9 : Ext wb w9 := Below.trans (HXn.out.trans hx2) (hb9 _ (Nat.le_refl _))
  have HREL := Hd (fun (z : Int) (hz : z = (F' : Int) + p.length) => show LiN wb m t.notes F (.slice A9 ((setsP m (t.notes.take i) F).length + 1) c9) (.int .i64 z) (.int .i64 ((i : Int) + 1)) w9 from ⟨i + 1, F' + p.length, by have := HE2.out; omega, by simp, by rw [hz]; simp, by rw [sumL_take _ HP.out, HF'.out]; omega, hx9, by
   rw [setsP_take m t.notes F i p HP.out, ← Int.natCast_add, ← HF'.out]
   exact ho9⟩)
  obtain ⟨d0, d1⟩ := HCA.out _ (HX1.out.trans (HXr.out.trans (HXn.out.trans hx2)))
  obtain ⟨g0, g1⟩ := HCA.out _ (HX1.out.trans (HXr.out.trans hx9))
  have hce2 := HEL.out _ (HX.out.trans (HXr.out.trans hx9))
  clear hrun ho9 hb9 hk9 hs9 hn9 hrow hos hlto hll hx9 hx2
  go_wp2_with (first | (at_builtin; refine wpList_append_run (s := .tmp 56) (x := .tmp 65) HRUN.out rfl rfl rfl rfl rfl ?_))
  go_roundw
  case rel => exact HREL.out _ rfl
  case measure => simp only [toM]; omega
 have hI : (i : Int) < (n : Int) := by omega
 obtain ⟨p, hp⟩ : ∃ p, t.paras[i]? = some p := ⟨_, List.getElem?_eq_getElem (by have := HE1.out; omega)⟩
 obtain ⟨b0, off, cs, rfl, hb0, _, hrep, hcell⟩ := Lay.row_at HR1.out hp
 obtain ⟨Ap, cp, rfl, hcp, hrp⟩ := kWs_rep.1 hrep
 have hce0 := hcell 0 _ rfl
 rw [kWs_sz, Nat.mul_one, Nat.add_zero] at hce0
 have HEL := Hd (fun X (hX : Ext w X) => (show X.cell? ⟨b0, off + i, none⟩ = some (.slice Ap p.length cp) from (hX.cells.1 b0 _ (World.block_lt_of_cell? _ _ hce0)).trans hce0))
 have hce := HEL.out _ (HX.out.trans HXr.out)
 have hpv := HV.out p (List.mem_append_left _ (List.mem_of_getElem? hp))
 have hF5 : F ≤ 50000 := by
  have h9 := sumL_le (t.paras.take i) fun q hq => (HV.out q (List.mem_append_left _ (List.mem_of_mem_take hq))).2
  rw [← HF.out, List.length_take] at h9
  omega
 have HSET := Hd (rlines1_any P wr Ap p.length cp p (F : Int) m (Lay.row_ext hrp (HX.out.trans HXr.out)) hpv.1 hpv.2 (by omega) (by omega) hm0 hm)
 have hpl := hpv.2
 have hpv1 := hpv.1
 have HP := Hd hp
 clear hrep hrp hcell hpv hp hce0
 go_wp2_with fail
 refine HSET.out.mono ?_
 rintro e w2 ⟨As, cz, rfl, hos, hx2⟩
 have hlto := Lay.own_lt HO.out
 obtain ⟨Ax, cx, e9, _, hrow⟩ := own_rowN (Q := fun j => w1.heap.size ≤ j ∧ u8.ownBlock ≠ some j) hos (fun j hj _ => ⟨Nat.le_trans HXr.out.lt hj, fun e => by have := (hlto j e).2; omega⟩) (fun j hj _ => ⟨Nat.le_trans HXr.out.lt hj, fun e => by have := (hlto j e).2; omega⟩)
 have e9a : As = Ax := by injection e9
 rw [← e9a] at hrow
 clear e9 e9a
 have hll := setP_le p (F : Int) m hm0 hpv1
 have hfl := setsP_flat_le m hm0 (t.paras.take i) 0 fun q hq => (HV.out q (List.mem_append_left _ (List.mem_of_mem_take hq))).1
 rw [← HF.out] at hfl
 obtain ⟨A9, c9, w9, hrun, ho9, hb9, hk9, hs9, hn9⟩ := own_appR (k := kLn) (Pr := Tryz.prog) (t := 82) Tryz.underlying82 info86 rfl (by decide) (by omega) (Lay.own_ext HO.out hx2) hrow cz (by omega) (Nat.le_trans HXr.out.lt hx2.lt)
 have HRUN := Hd hrun
 have hx9 : Ext w1 w9 := Below.trans (HXr.out.trans hx2) (hb9 _ (Nat.le_refl _))
 have HREL := Hd (show LiB w1 m t.paras (.slice A9 ((setsP m (t.paras.take i) 0).flatten.length + (setP p (F : Int) m).length) c9) (.int .i64 ((F : Int) + p.length)) (.int .i64 ((i : Int) + 1)) w9 from ⟨i + 1, F + p.length, by have := HE1.out; omega, by simp, by simp, by rw [sumL_take _ HP.out, ← HF.out], hx9, by
  rw [setsP_take m t.paras 0 i p HP.out, List.flatten_append, ← HF.out, Int.zero_add]
  simpa using ho9⟩)
 obtain ⟨g0, g1⟩ := HCA.out _ (HX1.out.trans hx9)
 have hce2 := HEL.out _ (HX.out.trans hx9)
 clear hrun ho9 hb9 hk9 hs9 hn9 hrow hos hx2 hlto hll hfl hpv1 hx9
 go_wp2_with (first | (at_builtin; refine wpList_append_run (s := .tmp 31) (x := .tmp 39) HRUN.out rfl rfl rfl rfl rfl ?_))
 go_roundw
 case rel =>
  have h9 := HREL.out
  rwa [List.length_flatten] at h9
 case measure => simp only [toM]; omega
end
section
open Go Go.RowKit
def LnV (W : World) (P : Nat → Prop) (x : Ln) (v : Value) : Prop := ∃ A1 n1 c1 A2 n2 c2, v = .agg #[.int .i64 x.fr, .int .i64 x.un, .slice A1 n1 c1, .slice A2 n2 c2] ∧ n1 ≤ c1 ∧ n2 ≤ c2 ∧ kInt.row W P A1 n1 x.gaps ∧ kInt.row W P A2 n2 x.nts
set_option maxHeartbeats 4000000 in
set_option maxRecDepth 100000 in
theorem rcopy_any (P : Nat → Prop) (w : World) (x : Ln) (A A' : Option Addr) (n n' c c' : Nat) (h1 : kInt.row w P A n x.gaps) (h2 : kInt.row w P A' n' x.nts) (hc : n ≤ c) (hc' : n' ≤ c') (hn : n ≤ 1000000) (hn' : n' ≤ 1000000) :
  Calls Tryz.prog 181 #[.agg #[.int .i64 x.fr, .int .i64 x.un, .slice A n c, .slice A' n' c']] w (fun e w' => ∃ v, e = .returned v ∧ LnV w' (fun j => w.heap.size ≤ j) x v ∧ Ext w w') := by
 obtain ⟨b1, hb1⟩ : ∃ b1, w.heap.size = b1 := ⟨_, rfl⟩
 have HP1 := Hd (fun X (hX : Ext w X) => rints_any P X A n c x.gaps (Lay.row_ext h1 hX) hc hn)
 have HP2 := Hd (fun X (hX : Ext w X) => rints_any P X A' n' c' x.nts (Lay.row_ext h2 hX) hc' hn')
 clear h1 h2 hc hc'
 go_enter Tryz.func181, Tryz.ntmps181
 go_upto_region 1 with (fail)
 obtain ⟨W1, hW1⟩ : ∃ W1, (w.alloc (.cells #[.int .i64 x.fr, .int .i64 x.un, .slice A n c, .slice A' n' c'] 86)).alloc (.cells #[.int .i64 0, .int .i64 0, .slice none 0 0, .slice none 0 0] 86) = W1 := ⟨_, rfl⟩
 rw [hW1]
 have hX0 : Ext w W1 := by rw [← hW1]; exact ((Ext.refl w).alloc _).alloc _
 have hB1 : W1.heap[b1]? = some (.cells #[.int .i64 x.fr, .int .i64 x.un, .slice A n c, .slice A' n' c'] 86 (0, 0)) := by
  rw [← hW1, ← hb1, haO _ _ _ (by simp)]
  exact haA _ _ _ _ rfl
 have hB2 : W1.heap[b1 + 1]? = some (.cells #[.int .i64 0, .int .i64 0, .slice none 0 0, .slice none 0 0] 86 (0, 0)) := by
  rw [← hW1, ← hb1]
  exact haA _ _ _ _ (by simp)
 have HX0 := Hd hX0
 have HB2 := Hd hB2
 have HBE := Hd hb1
 have l1 := lt_of_block hB1
 have l2 := lt_of_block hB2
 have HQ := Hd (fun X (hX : Ext W1 X) => (show X.cell? ⟨b1, 0, none⟩ = some (.int .i64 x.fr) ∧ X.cell? ⟨b1, 1, none⟩ = some (.int .i64 x.un) ∧ X.cell? ⟨b1, 2, none⟩ = some (.slice A n c) ∧ X.cell? ⟨b1, 3, none⟩ = some (.slice A' n' c') from
  have h9 := (hX.block _ l1).trans hB1
  ⟨cof h9 (i := 0) rfl, cof h9 (i := 1) rfl, cof h9 (i := 2) rfl, cof h9 (i := 3) rfl⟩))
 have HQ2 := Hd (fun X (hX : Ext W1 X) u u1 u2 u3 => (show ((((X.setCell ⟨b1 + 1, 0, none⟩ u).setCell ⟨b1 + 1, 1, none⟩ u1).setCell ⟨b1 + 1, 2, none⟩ u2).setCell ⟨b1 + 1, 3, none⟩ u3).cell? ⟨b1, 0, none⟩ = some (.int .i64 x.fr) ∧ ((((X.setCell ⟨b1 + 1, 0, none⟩ u).setCell ⟨b1 + 1, 1, none⟩ u1).setCell ⟨b1 + 1, 2, none⟩ u2).setCell ⟨b1 + 1, 3, none⟩ u3).cell? ⟨b1, 1, none⟩ = some (.int .i64 x.un) ∧
   ((((X.setCell ⟨b1 + 1, 0, none⟩ u).setCell ⟨b1 + 1, 1, none⟩ u1).setCell ⟨b1 + 1, 2, none⟩ u2).setCell ⟨b1 + 1, 3, none⟩ u3).cell? ⟨b1, 2, none⟩ = some (.slice A n c) ∧ ((((X.setCell ⟨b1 + 1, 0, none⟩ u).setCell ⟨b1 + 1, 1, none⟩ u1).setCell ⟨b1 + 1, 2, none⟩ u2).setCell ⟨b1 + 1, 3, none⟩ u3).cell? ⟨b1, 3, none⟩ = some (.slice A' n' c') from by
  have h9 := (hX.block _ l1).trans hB1
  have e9 : ((((X.setCell ⟨b1 + 1, 0, none⟩ u).setCell ⟨b1 + 1, 1, none⟩ u1).setCell ⟨b1 + 1, 2, none⟩ u2).setCell ⟨b1 + 1, 3, none⟩ u3).heap[b1]? = some (.cells #[.int .i64 x.fr, .int .i64 x.un, .slice A n c, .slice A' n' c'] 86 (0, 0)) := by
   rw [heap_setCell_other _ ⟨b1 + 1, 3, none⟩ b1 _ (by show b1 ≠ b1 + 1; omega), heap_setCell_other _ ⟨b1 + 1, 2, none⟩ b1 _ (by show b1 ≠ b1 + 1; omega), heap_setCell_other _ ⟨b1 + 1, 1, none⟩ b1 _ (by show b1 ≠ b1 + 1; omega), heap_setCell_other _ ⟨b1 + 1, 0, none⟩ b1 _ (by show b1 ≠ b1 + 1; omega)]
   exact h9
  exact ⟨cof e9 (i := 0) rfl, cof e9 (i := 1) rfl, cof e9 (i := 2) rfl, cof e9 (i := 3) rfl⟩))
 have HFZ := Hd (fun X (hX : Ext W1 X) => (show X.cell? ⟨b1 + 1, 0, none⟩ = some (.int .i64 0) ∧ X.cell? ⟨b1 + 1, 1, none⟩ = some (.int .i64 0) ∧ X.cell? ⟨b1 + 1, 2, none⟩ = some (.slice none 0 0) ∧ X.cell? ⟨b1 + 1, 3, none⟩ = some (.slice none 0 0) ∧ X.frozen? ⟨b1 + 1, 0, none⟩ = false ∧ X.frozen? ⟨b1 + 1, 1, none⟩ = false ∧ X.frozen? ⟨b1 + 1, 2, none⟩ = false ∧ X.frozen? ⟨b1 + 1, 3, none⟩ = false from
  have h9 := (hX.block _ l2).trans hB2
  ⟨cof h9 (i := 0) rfl, cof h9 (i := 1) rfl, cof h9 (i := 2) rfl, cof h9 (i := 3) rfl, fof h9 0, fof h9 1, fof h9 2, fof h9 3⟩))
 have hcur : Ext W1 W1.drew := (Ext.refl _).drew
 clear hX0 hB1 hB2 hb1 hW1
 go_region_held3 (fun W => W.cell? ⟨b1, 0, none⟩ = some (.int .i64 x.fr) ∧ W.cell? ⟨b1, 1, none⟩ = some (.int .i64 x.un) ∧ W.cell? ⟨b1, 2, none⟩ = some (.slice A n c) ∧ W.cell? ⟨b1, 3, none⟩ = some (.slice A' n' c')) (first | exact HQ.out _ hcur | exact HQ2.out _ hcur _ _ _ _) (first
  | (go_at_call_of 214 (Value.slice A n c); refine (HP1.out _ (HX0.out.trans hcur)).mono ?_; rintro e wG ⟨AG, cG, rfl, hG, hoG, hxG⟩; have HWG := Hd hcur.lt; have hcur := hcur.trans hxG; obtain ⟨g0, g1, g2, g3, f0, f1, f2, f3⟩ := HFZ.out _ hcur; have HOG := Hd hoG; have HXG := Hd hxG; clear hoG hxG)
  | (go_at_call_of 214 (Value.slice A' n' c'); refine (HP2.out _ (HX0.out.trans hcur)).mono ?_; rintro e wN ⟨AN, cN, rfl, hN, hoN, hxN⟩; have HWN := Hd hcur.lt; have hcur := hcur.trans hxN; obtain ⟨g0, g1, g2, g3, f0, f1, f2, f3⟩ := HFZ.out _ hcur; have HON := Hd hoN; have HXN := Hd hxN; clear hoN hxN))
 have HEND := Hd (fun X (hX : Ext W1 X) (AG AN : Option Addr) (cG cN : Nat) (hG : n ≤ cG) (hN : n' ≤ cN) (r1 : kInt.row X (fun j => W1.heap.size ≤ j) AG n x.gaps) (r2 : kInt.row X (fun j => W1.heap.size ≤ j) AN n' x.nts) =>
  (show ((((X.setCell ⟨b1 + 1, 0, none⟩ (.int .i64 x.fr)).setCell ⟨b1 + 1, 1, none⟩ (.int .i64 x.un)).setCell ⟨b1 + 1, 2, none⟩ (.slice AG n cG)).setCell ⟨b1 + 1, 3, none⟩ (.slice AN n' cN)).heap[b1 + 1]? = some (.cells #[.int .i64 x.fr, .int .i64 x.un, .slice AG n cG, .slice AN n' cN] 86 (0, 0)) ∧
   LnV ((((X.setCell ⟨b1 + 1, 0, none⟩ (.int .i64 x.fr)).setCell ⟨b1 + 1, 1, none⟩ (.int .i64 x.un)).setCell ⟨b1 + 1, 2, none⟩ (.slice AG n cG)).setCell ⟨b1 + 1, 3, none⟩ (.slice AN n' cN)) (fun j => w.heap.size ≤ j) x (.agg #[.int .i64 x.fr, .int .i64 x.un, .slice AG n cG, .slice AN n' cN]) ∧
   Ext w ((((X.setCell ⟨b1 + 1, 0, none⟩ (.int .i64 x.fr)).setCell ⟨b1 + 1, 1, none⟩ (.int .i64 x.un)).setCell ⟨b1 + 1, 2, none⟩ (.slice AG n cG)).setCell ⟨b1 + 1, 3, none⟩ (.slice AN n' cN)) by
   have hb : w.heap.size = b1 := HBE.out
   have hk : ∀ j, j ≠ b1 + 1 → ((((X.setCell ⟨b1 + 1, 0, none⟩ (.int .i64 x.fr)).setCell ⟨b1 + 1, 1, none⟩ (.int .i64 x.un)).setCell ⟨b1 + 1, 2, none⟩ (.slice AG n cG)).setCell ⟨b1 + 1, 3, none⟩ (.slice AN n' cN)).heap[j]? = X.heap[j]? := fun j hj => by
    rw [heap_setCell_other _ ⟨b1 + 1, 3, none⟩ j _ hj, heap_setCell_other _ ⟨b1 + 1, 2, none⟩ j _ hj, heap_setCell_other _ ⟨b1 + 1, 1, none⟩ j _ hj, heap_setCell_other _ ⟨b1 + 1, 0, none⟩ j _ hj]
   refine ⟨heap_setCell_same _ (b1 + 1) 3 _ 86 _ (heap_setCell_same _ (b1 + 1) 2 _ 86 _ (heap_setCell_same _ (b1 + 1) 1 _ 86 _ (heap_setCell_same _ (b1 + 1) 0 _ 86 _ ((hX.block _ l2).trans HB2.out)))), ⟨AG, n, cG, AN, n', cN, rfl, hG, hN, Lay.row_mono (Lay.row_keep r1 (by simp) fun j hj _ => hk j (by omega)) fun j hj _ => by omega, Lay.row_mono (Lay.row_keep r2 (by simp) fun j hj _ => hk j (by omega)) fun j hj _ => by omega⟩, ?_⟩
   exact ((((HX0.out.trans hX).setCell (p := ⟨b1 + 1, 0, none⟩) (by show w.heap.size ≤ b1 + 1; omega) _).setCell (p := ⟨b1 + 1, 1, none⟩) (by show w.heap.size ≤ b1 + 1; omega) _).setCell (p := ⟨b1 + 1, 2, none⟩) (by show w.heap.size ≤ b1 + 1; omega) _).setCell (p := ⟨b1 + 1, 3, none⟩) (by show w.heap.size ≤ b1 + 1; omega) _))
 all_goals
  go_wp2_with fail
  obtain ⟨z, hT, hE⟩ := HEND.out _ hcur AG AN cG cN hG hN (by first | exact Lay.row_mono (Lay.row_ext HOG.out HXN.out) fun j hj _ => Nat.le_trans HWG.out hj | exact Lay.row_mono HOG.out fun j hj _ => Nat.le_trans HWG.out hj) (by first | exact Lay.row_mono (Lay.row_ext HON.out HXG.out) fun j hj _ => Nat.le_trans HWN.out hj | exact Lay.row_mono HON.out fun j hj _ => Nat.le_trans HWN.out hj)
  have q0 := cof z (i := 0) rfl
  have q1 := cof z (i := 1) rfl
  have q2 := cof z (i := 2) rfl
  have q3 := cof z (i := 3) rfl
  refine bodyPost_ret (v := .agg #[.int .i64 x.fr, .int .i64 x.un, .slice AG n cG, .slice AN n' cN]) (by simp [results, Tryz.results181, go_sem, q0, q1, q2, q3]) rfl ?_
  exact ⟨_, rfl, hT, hE⟩
def usedN (n7 n8 : Nat) : Int := (n7 : Int) + (n8 : Int) + min (n8 : Int) 1
set_option maxHeartbeats 4000000 in
set_option maxRecDepth 100000 in
theorem rused_any (w : World) (a0 a1 a2 a3 : Int) (A7 A8 : Option Addr) (n7 c7 n8 c8 : Nat) (h7 : n7 ≤ 1000000) (h8 : n8 ≤ 1000000) :
  Calls Tryz.prog 183 #[.agg #[.int .i64 a0, .int .i64 a1, .int .i64 a2, .int .i64 a3, .slice A7 n7 c7, .slice A8 n8 c8]] w (fun e w' => e = .returned (.int .i64 (usedN n7 n8)) ∧ Ext w w') := by
 obtain ⟨mn, hmn⟩ : ∃ mn, min (n8 : Int) 1 = mn := ⟨_, rfl⟩
 have hmb : 0 ≤ mn ∧ mn ≤ 1 := by omega
 obtain ⟨hm1, hm2⟩ := hmb
 have HU := Hd (show usedN n7 n8 = (n7 : Int) + (n8 : Int) + mn by unfold usedN; rw [hmn])
 go_enter Tryz.func183, Tryz.ntmps183
 go_wp2_with fail
 go_ret
 exact ⟨by rw [HU.out]; rfl, (Ext.refl _).alloc _⟩
def fitsR (n7 n8 n2 : Nat) (q h : Int) : Bool := if n2 = 0 then decide (usedN n7 n8 ≤ h - 1) else decide (q = 0 ∧ usedN n7 n8 + 1 + (1 - min (n8 : Int) 1) + 1 ≤ h)
set_option maxHeartbeats 4000000 in
set_option maxRecDepth 100000 in
theorem rfits_any (w : World) (a0 a1 a2 a3 b0 b1 q h : Int) (A7 A8 B1 B2 : Option Addr) (n7 c7 n8 c8 m1 d1 m2 d2 : Nat) (h7 : n7 ≤ 1000000) (h8 : n8 ≤ 1000000) (hh : 0 ≤ h) (hh2 : h ≤ 1000) :
  Calls Tryz.prog 182 #[.agg #[.int .i64 a0, .int .i64 a1, .int .i64 a2, .int .i64 a3, .slice A7 n7 c7, .slice A8 n8 c8], .agg #[.int .i64 b0, .int .i64 b1, .slice B1 m1 d1, .slice B2 m2 d2], .int .i64 q, .int .i64 h] w (fun e w' => e = .returned (.bool (fitsR n7 n8 m2 q h)) ∧ Ext w w') := by
 obtain ⟨u, hu⟩ : ∃ u, usedN n7 n8 = u := ⟨_, rfl⟩
 obtain ⟨mn, hmn⟩ : ∃ mn, min (n8 : Int) 1 = mn := ⟨_, rfl⟩
 have hmb : 0 ≤ mn ∧ mn ≤ 1 := by omega
 have hub : 0 ≤ u ∧ u ≤ 3000000 := by rw [← hu]; unfold usedN; omega
 obtain ⟨hm1, hm2⟩ := hmb
 obtain ⟨hu1, hu2⟩ := hub
 have HUS := Hd (fun X => (show Calls Tryz.prog 183 #[.agg #[.int .i64 a0, .int .i64 a1, .int .i64 a2, .int .i64 a3, .slice A7 n7 c7, .slice A8 n8 c8]] X (fun e w' => e = .returned (.int .i64 u) ∧ Ext X w') from by rw [← hu]; exact rused_any X a0 a1 a2 a3 A7 A8 n7 c7 n8 c8 h7 h8))
 obtain ⟨rs, hrs⟩ : ∃ rs, fitsR n7 n8 m2 q h = rs := ⟨_, rfl⟩
 have HR := Hd (show (m2 = 0 → rs = decide (u ≤ h - 1)) ∧ (m2 ≠ 0 → rs = decide (q = 0 ∧ u + 1 + (1 - mn) + 1 ≤ h)) from ⟨fun h0 => by rw [← hrs]; unfold fitsR; rw [if_pos h0, hu], fun h0 => by rw [← hrs]; unfold fitsR; rw [if_neg h0, hu, hmn]⟩)
 rw [hrs]
 clear hu hrs h7
 go_enter Tryz.func182, Tryz.ntmps182
 go_upto_region 1 with (fail)
 obtain ⟨W0, hW0⟩ : ∃ W0, (w.alloc (.cells #[.int .i64 a0, .int .i64 a1, .int .i64 a2, .int .i64 a3, .slice A7 n7 c7, .slice A8 n8 c8] 84)).alloc (.cells #[.int .i64 b0, .int .i64 b1, .slice B1 m1 d1, .slice B2 m2 d2] 86) = W0 := ⟨_, rfl⟩
 obtain ⟨z, hz⟩ : ∃ z, w.heap.size = z := ⟨_, rfl⟩
 have hx0 : Ext w W0 := by rw [← hW0]; exact ((Ext.refl w).alloc _).alloc _
 have hB0 : W0.heap[z]? = some (.cells #[.int .i64 a0, .int .i64 a1, .int .i64 a2, .int .i64 a3, .slice A7 n7 c7, .slice A8 n8 c8] 84 (0, 0)) := by rw [← hW0, ← hz, haO _ _ _ (by simp)]; exact haA _ _ _ _ rfl
 have hB1 : W0.heap[z + 1]? = some (.cells #[.int .i64 b0, .int .i64 b1, .slice B1 m1 d1, .slice B2 m2 d2] 86 (0, 0)) := by rw [← hW0, ← hz]; exact haA _ _ _ _ (by simp)
 rw [hW0, hz]
 have p0 := cof hB0 (i := 0) (u := .int .i64 a0) rfl
 have p1 := cof hB0 (i := 1) (u := .int .i64 a1) rfl
 have p2 := cof hB0 (i := 2) (u := .int .i64 a2) rfl
 have p3 := cof hB0 (i := 3) (u := .int .i64 a3) rfl
 have p4 := cof hB0 (i := 4) (u := .slice A7 n7 c7) rfl
 have p5 := cof hB0 (i := 5) (u := .slice A8 n8 c8) rfl
 have l3 := cof hB1 (i := 3) (u := .slice B2 m2 d2) rfl
 have HX0 := Hd hx0
 clear hW0 hz hx0 hB0 hB1
 by_cases h0 : m2 = 0
 ·have hR := HR.out.1 h0
  subst hR
  subst h0
  clear HR
  go_wp2_with (first | (go_at_call 183; refine (HUS.out _).mono ?_; rintro e w2 ⟨rfl, hx2⟩))
  go_ret
  exact ⟨rfl, HX0.out.trans hx2⟩
 ·have hR := HR.out.2 h0
  have h0i : ((m2 : Int) == 0) = false := by rw [beq_eq_false_iff_ne]; omega
  have h0j : ¬ (m2 : Int) = 0 := by omega
  clear HR
  by_cases hq : q = 0
  ·subst hq
   have HRR := Hd (show rs = decide (u + 1 + (1 - mn) + 1 ≤ h) by rw [hR]; simp)
   clear hR
   go_wp2_with (first | (go_at_call 183; refine (HUS.out _).mono ?_; rintro e w2 ⟨rfl, hx2⟩))
   go_ret
   exact ⟨by rw [HRR.out]; rfl, HX0.out.trans hx2⟩
  ·have hqb : (q == 0) = false := by simpa using hq
   have HRR := Hd (show rs = false by rw [hR]; simp [hq])
   clear hR
   go_wp2_with (first | (go_at_call 183; refine (HUS.out _).mono ?_; rintro e w2 ⟨rfl, hx2⟩))
   go_ret
   exact ⟨by rw [HRR.out]; rfl, HX0.out⟩
end
section
open Go Go.RowKit
def RwN (k : Nat) (s7 : Value) (w w' : World) : Prop := ∃ i : Nat, i ≤ k ∧ s7 = .int .i64 i ∧ w = w'
def RwO (w : World) (nn : Nat) (body : List Ln) (K : Int) (s8 s9 : Value) (w' : World) : Prop := ∃ i k : Nat, i ≤ body.length ∧ k ≤ nn ∧ s9 = .int .i64 i ∧ s8 = .int .i64 k ∧ w = w' ∧ ordL nn (body.drop i) k = some K
def RwI (w : World) (nn k0 : Nat) (l : List Int) (k1 : Int) (s8 s10 : Value) (w' : World) : Prop := ∃ j k : Nat, j ≤ l.length ∧ k = k0 + j ∧ k ≤ nn ∧ s10 = .int .i64 j ∧ s8 = .int .i64 k ∧ w = w' ∧ ordN nn (l.drop j) k = some k1
set_option maxHeartbeats 8000000 in
set_option maxRecDepth 100000 in
theorem rwrong_any (P : Nat → Prop) (w : World) (A A' : Option Addr) (n n' c c' : Nat) (body : List Ln) (notes : List (List Ln)) (h : Int) (h1 : kLn.row w P A n body) (h2 : kLs.row w P A' n' notes) (hc : chkPg body notes h = 0) (hn : n ≤ 100000) (hn' : n' ≤ 100000) :
  Calls Tryz.prog 180 #[.slice A n c, .slice A' n' c', .int .i64 h] w (fun e w' => e = .returned (.int .i64 0) ∧ w = w') := by
 obtain ⟨k1, k2, k3, K, k4, k5⟩ := chkPg_inv hc
 have HE1 := Hd (Lay.row_len h1)
 have HE2 := Hd (Lay.row_len h2)
 have HR1 := Hd h1
 have HRN := Hd h2
 have HNN := Hd (fun (i : Nat) (l : List Ln) (hl : notes[i]? = some l) => (show l.length ≠ 0 from fun e => by
  have := List.any_eq_false.1 k3 l (List.mem_of_getElem? hl)
  simp [e] at this))
 have HK4 := Hd k4
 rw [← HE2.out] at HK4
 rw [← HE2.out] at k5
 have m1 : ¬ h < 4 := by omega
 have m2 : ¬ (100 : Int) < h := by omega
 clear h1 h2 hc k3 k4
 go_enter Tryz.func180, Tryz.ntmps180
 go_upto_region 4 with (fail)
 go_loopw [7] (fun s7 w' => RwN n' s7 w w') (fun s7 _ => toM n' s7)
 case atStart => exact ⟨0, by omega, rfl, rfl⟩
 obtain ⟨i, hi, rfl, rfl⟩ := hrel
 by_cases hlt : i < n'
 case pos =>
  have hI : (i : Int) < (n' : Int) := by omega
  obtain ⟨l, hl⟩ : ∃ l, notes[i]? = some l := ⟨_, List.getElem?_eq_getElem (by have := HE2.out; omega)⟩
  obtain ⟨b0, off, cs, rfl, hb0, _, hrep, hcell⟩ := Lay.row_at HRN.out hl
  obtain ⟨A1, n1, c1, rfl, _, hr1⟩ := hrep
  have hl0 := HNN.out i l hl
  have y0 := hcell 0 _ rfl
  rw [show kLs.sz = 1 from rfl, Nat.mul_one, Nat.add_zero] at y0
  have hn1 := Lay.row_len hr1
  have y1 : ((n1 : Int) == 0) = false := by rw [beq_eq_false_iff_ne]; omega
  have y2 : ¬ (n1 : Int) = 0 := by omega
  clear hl hcell hr1 hl0 hn1
  go_wp2_with fail
  go_roundw
  case rel => exact ⟨i + 1, by omega, by simp, rfl⟩
  case measure => simp only [toM]; omega
 obtain rfl : i = n' := by omega
 have hni : ¬ ((i : Int) < (i : Int)) := by omega
 rename World => wr
 go_upto_region 10 with (fail)
 go_loopw [8, 9, 10] (fun s8 s9 _ w' => RwO wr i body K s8 s9 w') (fun _ s9 _ _ => toM n s9)
 case atStart => exact ⟨0, 0, by omega, by omega, rfl, rfl, rfl, HK4.out⟩
 rename World => wq
 obtain ⟨q, k, hi, hk, rfl, rfl, rfl, heq⟩ := hrel
 have HEQ := Hd heq
 clear heq
 by_cases hlt : q < n
 case neg =>
  obtain rfl : n = q := by have := HE1.out; omega
  have hnn : ¬ ((n : Int) < (n : Int)) := by omega
  have hKk : K = k := by
   have h9 := HEQ.out
   rw [List.drop_of_length_le (by have := HE1.out; omega)] at h9
   injection h9 with h9
   exact h9.symm
  have hkn : ¬ ((k : Int) < (i : Int)) := by omega
  go_wp2_with fail
  go_ret
  exact ⟨rfl, rfl⟩
 have hI : (q : Int) < (n : Int) := by omega
 obtain ⟨x, hx⟩ : ∃ x, body[q]? = some x := ⟨_, List.getElem?_eq_getElem (by have := HE1.out; omega)⟩
 obtain ⟨k1, hk1, hk2⟩ := ordL_inv (by have h9 := HEQ.out; rw [dwl' _ hx] at h9; exact h9)
 obtain ⟨b0, off, cs, rfl, hb0, _, hrep, hcell⟩ := Lay.row_at HR1.out hx
 obtain ⟨A1, n1, c1, A2, n2, c2, rfl, _, _, hr1, hr2⟩ := kLn_rep.1 hrep
 have c3' := hcell 3 _ rfl
 rw [kLn_sz] at c3'
 have HR2 := Hd hr2
 have HE3 := Hd (Lay.row_len hr2)
 have HK1 := Hd hk1
 have HK2 := Hd hk2
 obtain ⟨x1, x2, x3, x4⟩ := x
 simp only at HR2 HE3 HK1
 clear hrep hcell hr1 hr2 hk1 hk2 hx
 rename World => wv
 go_upto_region 13 with (fail)
 go_loopw [8, 10] (fun s8 s10 w' => RwI wv i k x4 k1 s8 s10 w') (fun _ s10 _ => toM n2 s10)
 case atStart => exact ⟨0, k, by omega, rfl, hk, rfl, rfl, rfl, HK1.out⟩
 rename World => wz
 obtain ⟨j, k', hj, hkj, hk', rfl, rfl, rfl, heqi⟩ := hrel
 have hjn : j ≤ i := by omega
 have HKJ := Hd hkj
 clear hkj
 have HEQi := Hd heqi
 clear heqi
 by_cases hjl : j < n2
 case neg =>
  obtain rfl : n2 = j := by have := HE3.out; omega
  have hnj : ¬ ((n2 : Int) < (n2 : Int)) := by omega
  have HK := Hd (show k1 = (k' : Int) by
   have h9 := HEQi.out
   rw [List.drop_of_length_le (by have := HE3.out; omega)] at h9
   injection h9 with h9
   exact h9.symm)
  go_wp2_with fail
  go_roundw
  case rel => exact ⟨q + 1, k', by have := HE1.out; omega, hk', by simp, rfl, rfl, by have h9 := HK2.out; rwa [HK.out] at h9⟩
  case measure => simp only [toM]; omega
 have hJ : (j : Int) < (n2 : Int) := by omega
 obtain ⟨y, hy⟩ : ∃ y, x4[j]? = some y := ⟨_, List.getElem?_eq_getElem (by have := HE3.out; omega)⟩
 obtain ⟨e1, e2, e3⟩ := ordN_inv (by have h9 := HEQi.out; rw [dwl' _ hy] at h9; exact h9)
 subst e1
 obtain ⟨b2, o2, rfl, hb2, _, hcell⟩ := int_at HR2.out hy
 have HE := Hd e3
 have e2' : ¬ ((i : Int) ≤ (k' : Int)) := by omega
 have e2'' : decide ((i : Int) ≤ (k' : Int)) = false := by simpa using e2'
 have e1' : ((k' : Int) != (k' : Int)) = false := by simp
 clear hy e3
 go_wp2_with fail
 go_roundw
 case rel => exact ⟨j + 1, k' + 1, by have := HE3.out; omega, by have := HKJ.out; omega, by omega, by simp, by simp, rfl, HE.out⟩
 case measure => simp only [toM]; omega
end
end Go.Proofs.YtdbnddmncbjobaaGreatDoor