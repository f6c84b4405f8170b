/- The reference's lines: walked (printed by genvc.py). -/
import Derived.Test.YtdbnddmncbjobaaGreatDoorMbj
namespace Go.Proofs.YtdbnddmncbjobaaGreatDoor
open Go Go.RowKit
def RlW (w : World) (ws : List Wd) (s7 s8 : Value) (w' : World) : Prop := ∃ (i : Nat) (A : Option Addr) (c : Nat), i ≤ ws.length ∧ s8 = .int .i64 i ∧ s7 = .slice A i c ∧ kInt.own 3 w' w.heap.size (fun _ => True) (.slice A i c) ((wdsL ws).take i) ∧ Ext w w'
def RlL (w2 : World) (ls : List Nat) (LN : List Ln) (s11 s12 s13 : Value) (w' : World) : Prop := ∃ (i F : Nat) (A : Option Addr) (c : Nat), i ≤ ls.length ∧ s13 = .int .i64 i ∧ s12 = .int .i64 F ∧ F = (ls.take i).sum ∧ s11 = .slice A i c ∧ Ext w2 w' ∧ kLn.own 86 w' w2.heap.size (fun j => w2.heap.size ≤ j) (.slice A i c) (LN.take i)
def RlB (wr : World) (f1 f2 : Int) (G : List Int) (s14 : Value) (wx : World) : Prop := ∃ (bl : Nat) (Ag : Option Addr) (cg : Nat), s14 = .pointer (some ⟨bl, 0, none⟩) ∧ wr.heap.size ≤ bl ∧ G.length ≤ cg ∧ wx.heap[bl]? = some (.cells #[.int .i64 f1, .int .i64 f2, .slice Ag G.length cg, .slice none 0 0] 86 (0, 0)) ∧ kInt.row wx (fun j => wr.heap.size ≤ j ∧ j ≠ bl) Ag G.length G ∧ Ext wr wx
def RlN (w4 : World) (bl : Nat) (f1 f2 : Int) (gv : Value) (p : List Wd) (F : Nat) (s15 : Value) (w' : World) : Prop := ∃ (j k : Nat) (nv : Value), j ≤ p.length ∧ k = F + j ∧ s15 = .int .i64 k ∧ Mv bl w4 w' ∧ w'.heap[bl]? = some (.cells #[.int .i64 f1, .int .i64 f2, gv, nv] 86 (0, 0)) ∧ kInt.own 3 w' w4.heap.size (fun _ => True) nv (ntsOf (p.take j))
theorem rl_box {wr V : World} {bl : Nat} (hV : V.heap[bl]? = some (.cells #[.int .i64 0, .int .i64 0, .slice none 0 0, .slice none 0 0] 86 (0, 0))) (hw : wr.heap.size ≤ bl) (hx : Ext wr V) {Ag : Option Addr} {G : List Int} {cg : Nat} (hr : kInt.row V (fun j => wr.heap.size ≤ j ∧ j ≠ bl) Ag G.length G) (hg : G.length ≤ cg) (f1 f2 : Int) :
  RlB wr f1 f2 G (.pointer (some ⟨bl, 0, none⟩)) ((((V.setCell ⟨bl, 0, none⟩ (.int .i64 f1)).setCell ⟨bl, 1, none⟩ (.int .i64 f2)).setCell ⟨bl, 2, none⟩ (.slice Ag G.length cg)).setCell ⟨bl, 3, none⟩ (.slice none 0 0)) := by
 refine ⟨bl, Ag, cg, rfl, hw, hg, heap_setCell_same _ bl 3 _ 86 _ (heap_setCell_same _ bl 2 _ 86 _ (heap_setCell_same _ bl 1 _ 86 _ (heap_setCell_same _ bl 0 _ 86 _ hV))), Lay.row_keep hr (by simp) fun j hj _ => ?_, (((hx.setCell (p := ⟨bl, 0, none⟩) hw _).setCell (p := ⟨bl, 1, none⟩) hw _).setCell (p := ⟨bl, 2, none⟩) hw _).setCell (p := ⟨bl, 3, none⟩) hw _⟩
 rw [heap_setCell_other _ ⟨bl, 3, none⟩ j _ hj.2, heap_setCell_other _ ⟨bl, 2, none⟩ j _ hj.2, heap_setCell_other _ ⟨bl, 1, none⟩ j _ hj.2, heap_setCell_other _ ⟨bl, 0, none⟩ j _ hj.2]
theorem slice_mid (b o n c l h : Nat) (hl : l < h) (hh : h ≤ c) (W : World) : (Instr.sliceAt 22 (.slice (some ⟨b, o, none⟩) n c) (some (.int .i64 (l : Int))) (some (.int .i64 (h : Int))) none).run Tryz.prog W = .ok (.slice (some ⟨b, o + l, none⟩) (h - l) (c - l)) W := by
 have h1 : (l : Int) ≤ (h : Int) := by omega
 have h2 : (h : Int) ≤ (c : Int) := by omega
 have h3 : ¬ l = c := by omega
 have h4 : ¬ c = l := by omega
 go_simp
theorem exec_slice2 {P : Program} {ev : Operand → Value} {o : Oper} {t : TypeId} {x y y' : Operand} {vx vy vy' v : Value} {w : World} (ho : o.op = .slice t x (some y) (some y') none) (hx : ev x = vx) (hy : ev y = vy) (hy' : ev y' = vy') (hr : (Instr.sliceAt t vx (some vy) (some vy') none).run P w = .ok v w) : (execOp ev o).run P w = .ok (.value v) w := by
 unfold execOp
 simp [ho, hx, hy, hy', hr]
set_option maxHeartbeats 8000000 in
set_option maxRecDepth 100000 in
theorem rlines1_any (P : Nat → Prop) (w : World) (A : Option Addr) (n c : Nat) (ws : List Wd) (first m : Int) (h : kWd.row w P A n ws) (hv : WsV ws) (hn : n ≤ 500) (hf0 : 0 ≤ first) (hf : first ≤ 1000000) (hm0 : 500 ≤ m) (hm : m ≤ 2000) :
  Calls Tryz.prog 179 #[.slice A n c, .int .i64 first, .int .i64 m] w (fun e w' => ∃ A' c', e = .returned (.slice A' (setP ws first m).length c') ∧ kLn.own 86 w' w.heap.size (fun j => w.heap.size ≤ j) (.slice A' (setP ws first m).length c') (setP ws first m) ∧ Ext w w') := by
 have HL := Hd (Lay.row_len h)
 have HR := Hd h
 have HV := Hd hv
 have HLW := Hd (show (wdsL ws).length = n by unfold wdsL; rw [List.length_map]; exact (Lay.row_len h).symm)
 have hlo := lens_ok (m := m) hm0 hv.wdr.wds
 rw [HLW.out] at hlo
 obtain ⟨ls, hls⟩ : ∃ ls, lens (wdsL ws) m = ls := ⟨_, rfl⟩
 rw [hls] at hlo
 have HLS := Hd hls
 have HLO := Hd hlo
 have hL5 : ls.length ≤ 500 := by have := len_le_sum ls hlo.1; omega
 have HLN := Hd (show (setP ws first m).length = ls.length by rw [setP_lens]; exact congrArg List.length hls)
 have HAT := Hd (fun i l (h : ls[i]? = some l) => show (setP ws first m)[i]? = some (⟨first + ((ls.take i).sum : Nat), first + (((ls.take i).sum + l : Nat) : Int), gapsP (((ws.drop (ls.take i).sum).take l).map fun w => wid w.s) m (decide (i + 1 = ls.length)), ntsOf ((ws.drop (ls.take i).sum).take l)⟩ : Ln) by
  have h9 : lens (ws.map fun w => wid w.s) m = ls := hls
  unfold setP
  rw [h9]
  exact linesGo_at m ls ws first i l h)
 obtain ⟨LN, hLN⟩ : ∃ LN, setP ws first m = LN := ⟨_, rfl⟩
 rw [hLN] at HLN HAT ⊢
 have HEN := Hd (fun X (hX : Ext w X) A1 c1 (h1 : kInt.row X (fun _ => True) A1 n (wdsL ws)) => (show Calls Tryz.prog 212 #[.slice A1 n c1, .int .i64 m] X (fun e w' => ∃ A' c', e = .returned (.tuple #[.slice A' ls.length c', .int .i64 0]) ∧ kInt.own 3 w' X.heap.size (fun _ => True) (.slice A' ls.length c') (cum 0 ls) ∧ Ext X w') from by
  have h9 := rends_any (fun _ => True) X A1 n c1 (wdsL ws) m h1 hv.wdr hn hm0 hm
  rwa [hls] at h9))
 clear h hv hlo hls hLN
 go_enter Tryz.func179, Tryz.ntmps179
 go_wp2_with fail
 go_loopw [7, 8] (fun s7 s8 w' => RlW w ws s7 s8 w') (fun _ s8 _ => toM n s8)
 case atStart => exact ⟨0, none, 0, by omega, rfl, rfl, by rw [List.take_zero]; exact Lay.own_nil _ _ _ _ _, Ext.refl _⟩
 obtain ⟨i, A7, c7, hi, rfl, rfl, ho, hx⟩ := hrel
 rw [← HL.out] at hi
 have HO := Hd ho
 have HX := Hd hx
 clear ho hx
 by_cases hlt : i < n
 case pos =>
  have hI : (i : Int) < (n : Int) := by omega
  obtain ⟨x, hxi⟩ : ∃ x, ws[i]? = some x := ⟨_, List.getElem?_eq_getElem (by have := HL.out; omega)⟩
  obtain ⟨b0, off, cs, rfl, hb0, _, hrep, hcell⟩ := Lay.row_at (Lay.row_ext HR.out HX.out) hxi
  rw [kWd_rep] at hrep
  subst hrep
  have c0 := hcell 0 _ rfl
  rw [kWd_sz, Nat.add_zero] at c0
  have hll : ((wdsL ws).take i).length = i := by rw [List.length_take, HLW.out]; omega
  obtain ⟨A9, c9, w9, hrun, ho9, hx9⟩ := int_app (x := wid x.s) HO.out HX.out (by rw [hll]; omega)
  rw [hll] at hrun ho9
  have HRUN := Hd hrun
  have HREL := Hd (show RlW w ws (.slice A9 (i + 1) c9) (.int .i64 ((i : Int) + 1)) w9 from ⟨i + 1, A9, c9, by have := HL.out; omega, by simp, rfl, by
   have e9 : (wdsL ws)[i]? = some (wid x.s) := by unfold wdsL; rw [List.getElem?_map, hxi]; rfl
   rw [List.take_add_one, e9]
   exact ho9, hx9⟩)
  have HWI := Hd (fun X => rwidth_any ⟨x.s.toArray⟩ X (wid x.s) rfl)
  clear hxi hcell hll hrun ho9 hx9
  go_wp2_with (first | (go_at_call 211; refine (HWI.out _).mono ?_; rintro e w1 ⟨rfl, rfl⟩) | (at_builtin; refine wpList_append_run (s := .tmp 22) (x := .tmp 29) HRUN.out rfl rfl rfl rfl rfl ?_))
  go_roundw
  case rel => exact HREL.out
  case measure => simp only [toM]; omega
 obtain rfl : i = n := by omega
 have hni : ¬ ((i : Int) < (i : Int)) := by omega
 have hrw : kInt.row wr (fun _ => True) A7 i (wdsL ws) := by
  obtain ⟨A8, c8, e8, _, h8⟩ := Lay.own_row HO.out
  rw [List.take_of_length_le (by rw [HLW.out]; exact Nat.le_refl _)] at h8 e8
  have e8a := (Value.slice.inj e8).1
  rw [HLW.out, ← e8a] at h8
  exact Lay.row_mono h8 fun _ _ _ => trivial
 have HRW0 := Hd hrw
 clear hrw
 go_wp2_with (first | (go_at_call 212; refine (HEN.out _ HX.out _ _ HRW0.out).mono ?_; rintro e w2 ⟨Ae, ce, rfl, hoe, hx2⟩; have HOE := Hd hoe; have HX2 := Hd hx2; clear hoe hx2))
 have HXW := Hd (HX.out.trans HX2.out)
 have HRE := Hd (show kInt.row w2 (fun _ => True) Ae ls.length (cum 0 ls) by
  obtain ⟨A9, c9, e9, _, h9⟩ := Lay.own_row HOE.out
  rw [cum_len] at h9 e9
  rw [← (Value.slice.inj e9).1] at h9
  exact Lay.row_mono h9 fun _ _ _ => trivial)
 have HRW := Hd (Lay.row_ext HRW0.out HX2.out)
 have HRS := Hd (Lay.row_ext HR.out HXW.out)
 go_loopw [11, 12, 13, 15] (fun s11 s12 s13 _ w' => RlL w2 ls LN s11 s12 s13 w') (fun _ _ s13 _ _ => toM ls.length s13)
 case atStart => exact ⟨0, 0, none, 0, by omega, rfl, rfl, rfl, rfl, Ext.refl _, by rw [List.take_zero]; exact Lay.own_nil _ _ _ _ _⟩
 obtain ⟨q, F, A11, c11, hq, rfl, rfl, hF, rfl, hx, ho⟩ := hrel
 have HXr := Hd hx
 have HOr := Hd ho
 have HF := Hd hF
 clear hx ho hF
 by_cases hlt2 : q < ls.length
 case neg =>
  obtain rfl : ls.length = q := by omega
  have hnq : ¬ ((ls.length : Int) < (ls.length : Int)) := by omega
  have HO5 := Hd HOr.out
  rw [List.take_of_length_le (by rw [HLN.out]; exact Nat.le_refl _)] at HO5
  go_wp2_with fail
  go_ret
  rw [HLN.out]
  exact ⟨_, _, rfl, own_low HO5.out HXW.out.lt, HXW.out.trans HXr.out⟩
 have hI2 : (q : Int) < (ls.length : Int) := by omega
 obtain ⟨l, hl⟩ : ∃ l, ls[q]? = some l := ⟨_, List.getElem?_eq_getElem hlt2⟩
 have hl1 := HLO.out.1 l (List.mem_of_getElem? hl)
 have hFl := sum_take_le ls hl
 rw [HLO.out.2, ← HF.out] at hFl
 have hce := cum_at ls 0 q l hl
 rw [← HF.out, Int.zero_add] at hce
 obtain ⟨be, oe, rfl, hbe, _, hcell2⟩ := int_at HRE.out hce
 obtain ⟨T, hT⟩ : ∃ T, F + l = T := ⟨_, rfl⟩
 rw [hT] at hFl hcell2
 have HSC := Hd (fun X (hX : Ext w2 X) => (show X.cell? ⟨be, oe + q, none⟩ = some (.int .i64 (T : Int)) from (hX.cells.1 be _ (World.block_lt_of_cell? _ _ hcell2)).trans hcell2))
 have hcell := HSC.out _ HXr.out
 clear hcell2
 have hT1 : F < T := by omega
 have hT2 : (F : Int) < (T : Int) := by omega
 have hTF : T - F = l := by omega
 have HLI := Hd hl
 have HT := Hd hT
 clear hl hce hT
 obtain ⟨b7, o7, rfl, _, _, _⟩ := int_at HRW.out (show (wdsL ws)[F]? = some ((wdsL ws)[F]'(by have := HLW.out; omega)) from List.getElem?_eq_getElem _)
 have hic7 : i ≤ c7 := by
  obtain ⟨_, _, e8, h8, _⟩ := Lay.own_row HO.out
  have e8b := (Value.slice.inj e8).2.1
  have e8c := (Value.slice.inj e8).2.2
  omega
 have hTi : T ≤ i := by have := HLW.out; omega
 obtain ⟨b0, off, cs0, rfl, hb00, _, _, _⟩ := Lay.row_at HRS.out (show ws[F]? = some (ws[F]'(by have := HL.out; omega)) from List.getElem?_eq_getElem _)
 obtain ⟨lb, hlb⟩ : ∃ lb, ((q : Int) == (ls.length : Int) - 1) = lb := ⟨_, rfl⟩
 have HLB := Hd (show lb = decide (q + 1 = ls.length) by
  rw [← hlb]
  by_cases h9 : q + 1 = ls.length
  ·rw [decide_eq_true h9, beq_iff_eq]; omega
  ·rw [decide_eq_false h9, beq_eq_false_iff_ne]; omega)
 have HCUT := Hd (fun X => (show (Instr.sliceAt 22 (.slice (some ⟨b7, o7, none⟩) i c7) (some (.int .i64 (F : Int))) (some (.int .i64 (T : Int))) none).run Tryz.prog X = .ok (.slice (some ⟨b7, o7 + F, none⟩) l (c7 - F)) X from by
  have h9 := slice_mid b7 o7 i c7 F T (by omega) (by omega) X
  rwa [hTF] at h9))
 have HGP := Hd (fun X (hX : Ext w2 X) => rgaps_any (fun _ => True) X (some ⟨b7, o7 + F, none⟩) l (c7 - F) (((wdsL ws).drop F).take l) m lb (by
  have h9 := Lay.row_take (Lay.row_drop (Lay.row_ext HRW.out hX) F) l (by omega)
  rwa [show kInt.sz = 1 from rfl, Nat.mul_one] at h9) (fun x hx => HV.out.wdr.wds x (List.mem_of_mem_drop (List.mem_of_mem_take hx))) (by omega) (by omega) hm)
 obtain ⟨GP, hGP⟩ : ∃ GP, gapsP (((wdsL ws).drop F).take l) m lb = GP := ⟨_, rfl⟩
 rw [hGP] at HGP
 obtain ⟨p, hp⟩ : ∃ p, (ws.drop F).take l = p := ⟨_, rfl⟩
 have hpl : p.length = l := by rw [← hp, List.length_take, List.length_drop]; have := HL.out; omega
 have HXL := Hd (show LN[q]? = some (⟨first + F, first + T, GP, ntsOf p⟩ : Ln) by
  have h9 := HAT.out q l HLI.out
  have h8 := hGP
  unfold wdsL at h8
  rw [← List.map_drop, ← List.map_take, hp, HLB.out] at h8
  rw [← HF.out, HT.out, hp, h8] at h9
  exact h9)
 have HP := Hd hp
 clear hGP hp
 have hqi : ((q : Int) == (ls.length : Int) - 1) = lb := hlb
 go_upto_region 12 with (fail)
 go_cut [14] (fun s14 wx => RlB wr (first + F) (first + T) GP s14 wx)
 case first =>
  have hS0 : (fun X : World => X.cell? ⟨be, oe + q, none⟩ = some (.int .i64 (T : Int))) wr.drew := HSC.out _ (HXr.out.trans (Ext.refl _).drew)
  refine wp_region_E (fun X : World => X.cell? ⟨be, oe + q, none⟩ = some (.int .i64 (T : Int))) (fun _ => True) (fun i => i == 25) (by kernel_rfl) ?_
  refine wpE_tk 0 43 (.int .i64 first) hS0 ?_ ?_
  ·intro w9 hT9; clear hT9; go_simp
  (try simp only [Act.put, ptA, ptB, ptC])
  refine wpE_tk 1 44 (.int .i64 (F : Int)) hS0 ?_ ?_
  ·intro w9 hT9; clear hT9; go_simp
  (try simp only [Act.put, ptA, ptB, ptC])
  refine wpE_tk 2 45 (.int .i64 (first + F)) hS0 ?_ ?_
  ·intro w9 hT9; clear hT9; go_simp; exact IntWalk.i64_in _ (by omega)
  (try simp only [Act.put, ptA, ptB, ptC])
  refine wpE_tk 3 46 (.int .i64 first) hS0 ?_ ?_
  ·intro w9 hT9; clear hT9; go_simp
  (try simp only [Act.put, ptA, ptB, ptC])
  refine wpE_tk 4 47 (.slice (some ⟨be, oe, none⟩) ls.length ce) hS0 ?_ ?_
  ·intro w9 hT9; clear hT9; go_simp
  (try simp only [Act.put, ptA, ptB, ptC])
  refine wpE_tk 5 48 (.int .i64 (q : Int)) hS0 ?_ ?_
  ·intro w9 hT9; clear hT9; go_simp
  (try simp only [Act.put, ptA, ptB, ptC])
  refine wpE_tk 6 49 (.pointer (some ⟨be, oe + q, none⟩)) hS0 ?_ ?_
  ·intro w9 hT9; clear hT9; go_simp
  (try simp only [Act.put, ptA, ptB, ptC])
  refine wpE_tk 7 50 (.int .i64 (T : Int)) hS0 ?_ ?_
  ·intro w9 hT9; have y0 : w9.cell? ⟨be, oe + q, none⟩ = some (.int .i64 (T : Int)) := hT9; go_simp
  (try simp only [Act.put, ptA, ptB, ptC])
  refine wpE_tk 8 51 (.int .i64 (first + T)) hS0 ?_ ?_
  ·intro w9 hT9; clear hT9; go_simp; exact IntWalk.i64_in _ (by omega)
  (try simp only [Act.put, ptA, ptB, ptC])
  refine wpE_tk 9 52 (.slice (some ⟨b7, o7, none⟩) i c7) hS0 ?_ ?_
  ·intro w9 hT9; clear hT9; go_simp
  (try simp only [Act.put, ptA, ptB, ptC])
  refine wpE_tk 10 53 (.int .i64 (F : Int)) hS0 ?_ ?_
  ·intro w9 hT9; clear hT9; go_simp
  (try simp only [Act.put, ptA, ptB, ptC])
  refine wpE_tk 11 54 (.slice (some ⟨be, oe, none⟩) ls.length ce) hS0 ?_ ?_
  ·intro w9 hT9; clear hT9; go_simp
  (try simp only [Act.put, ptA, ptB, ptC])
  refine wpE_tk 12 55 (.int .i64 (q : Int)) hS0 ?_ ?_
  ·intro w9 hT9; clear hT9; go_simp
  (try simp only [Act.put, ptA, ptB, ptC])
  refine wpE_tk 13 56 (.pointer (some ⟨be, oe + q, none⟩)) hS0 ?_ ?_
  ·intro w9 hT9; clear hT9; go_simp
  (try simp only [Act.put, ptA, ptB, ptC])
  refine wpE_tk 14 57 (.int .i64 (T : Int)) hS0 ?_ ?_
  ·intro w9 hT9; have y0 : w9.cell? ⟨be, oe + q, none⟩ = some (.int .i64 (T : Int)) := hT9; go_simp
  (try simp only [Act.put, ptA, ptB, ptC])
  refine wpE_tk 15 58 (.slice (some ⟨b7, o7 + F, none⟩) l (c7 - F)) hS0 ?_ ?_
  ·intro w9 hT9; exact exec_slice2 rfl rfl rfl rfl (HCUT.out w9)
  (try simp only [Act.put, ptA, ptB, ptC])
  refine wpE_tk 16 59 (.int .i64 m) hS0 ?_ ?_
  ·intro w9 hT9; clear hT9; go_simp
  (try simp only [Act.put, ptA, ptB, ptC])
  refine wpE_tk 17 60 (.int .i64 (q : Int)) hS0 ?_ ?_
  ·intro w9 hT9; clear hT9; go_simp
  (try simp only [Act.put, ptA, ptB, ptC])
  refine wpE_tk 18 61 (.slice (some ⟨be, oe, none⟩) ls.length ce) hS0 ?_ ?_
  ·intro w9 hT9; clear hT9; go_simp
  (try simp only [Act.put, ptA, ptB, ptC])
  refine wpE_tk 19 62 (.int .i64 (ls.length : Int)) hS0 ?_ ?_
  ·intro w9 hT9; clear hT9; go_simp
  (try simp only [Act.put, ptA, ptB, ptC])
  refine wpE_tk 20 63 (.int .i64 ((ls.length : Int) - 1)) hS0 ?_ ?_
  ·intro w9 hT9; clear hT9; go_simp; exact IntWalk.i64_in _ (by omega)
  (try simp only [Act.put, ptA, ptB, ptC])
  refine wpE_tk 21 64 (.bool lb) hS0 ?_ ?_
  ·intro w9 hT9; clear hT9; go_simp
  (try simp only [Act.put, ptA, ptB, ptC])
  refine wal (rs := [22, 24]) (by kernel_rfl) (by simp) ?_
  refine AllE.cons rfl (fun K hK => ?_) (AllE.cons rfl (fun K hK => ?_) AllE.nil)
  ·skip
   simp only [List.getElem_toArray, List.getElem_cons_succ, List.getElem_cons_zero]
   go_simp
   go_at_call 213
   refine (HGP.out _ (HXr.out.trans (Ext.refl _).drew)).mono ?_
   rintro z9 wG ⟨Ag, cg, rfl, hog, hxG⟩
   have hcur : Ext wr wG := (Ext.refl _).drew.trans hxG
   simp only []
   refine hK.out _ _ ⟨fun _ => (HSC.out _ (HXr.out.trans hcur)), trivial⟩ (fun _ => ?_)
   clear hK K
   have hS0 := (HSC.out _ (HXr.out.trans hcur))
   (try simp only [Act.put, ptA, ptB, ptC])
   refine wpE_tk 23 66 (.agg #[.int .i64 (first + F), .int .i64 (first + T), .slice Ag GP.length cg, .slice none 0 0]) hS0 ?_ ?_
   ·intro w9 hT9; clear hT9; go_simp
   (try simp only [Act.put, ptA, ptB, ptC])
   refine wal (rs := [24]) (by kernel_rfl) (by simp) ?_
   refine AllE.cons rfl (fun K hK => ?_) AllE.nil
   simp only [List.getElem_toArray, List.getElem_cons_succ, List.getElem_cons_zero]
   go_simp
   refine hK.out _ _ ⟨fun _ => (HSC.out _ (HXr.out.trans (hcur.alloc (.cells #[.int .i64 0, .int .i64 0, .slice none 0 0, .slice none 0 0] 86)))), trivial⟩ (fun _ => ?_)
   clear hK K
   have hS0 := (HSC.out _ (HXr.out.trans (hcur.alloc (.cells #[.int .i64 0, .int .i64 0, .slice none 0 0, .slice none 0 0] 86))))
   (try simp only [Act.put, ptA, ptB, ptC])
   obtain ⟨A8, c8, e8, _, hog2⟩ := own_rowN (Q := fun j => wr.heap.size ≤ j) (own_int (P := fun j => wr.heap.size ≤ j) hog) (fun j hj _ => hj) (fun j hj _ => hj)
   rw [← (Value.slice.inj e8).1] at hog2
   refine wal (rs := [25]) (by kernel_rfl) (by simp) ?_
   refine AllE.cons rfl (fun K hK => ?_) AllE.nil
   simp only [List.getElem_toArray, List.getElem_cons_succ, List.getElem_cons_zero]
   obtain ⟨A9, c9, e9, h9, hr9⟩ := Lay.own_row hog
   obtain ⟨e9a, _, e9c⟩ := Value.slice.inj e9
   rw [← e9c] at h9
   have HFIN := Hd (show RlB wr (first + F) (first + T) GP (.pointer (some ⟨wG.heap.size, 0, none⟩)) (wG.alloc (.cells #[.int .i64 (first + F), .int .i64 (first + T), .slice Ag GP.length cg, .slice none 0 0] 86)) from ⟨_, Ag, cg, rfl, hcur.lt, h9, haA _ _ _ _ rfl, Lay.row_ext (Lay.row_mono hog2 fun j hj hl => ⟨hj, by omega⟩) ((Ext.refl _).alloc _), hcur.alloc _⟩)
   clear e9 e9a e9c h9 hr9
   go_simp
   refine hK.out _ _ ⟨fun h => absurd h (by simp), trivial⟩ (fun _ => ?_)
   clear hK K
   (try simp only [Act.put, ptA, ptB, ptC])
   refine wpE_done (by kernel_rfl) ?_ _
   go_wp2_with fail
   go_meet
   case rel => exact HFIN.out
  ·skip
   simp only [List.getElem_toArray, List.getElem_cons_succ, List.getElem_cons_zero]
   go_simp
   refine hK.out _ _ ⟨fun _ => (HSC.out _ (HXr.out.trans ((Ext.refl wr).drew.alloc (.cells #[.int .i64 0, .int .i64 0, .slice none 0 0, .slice none 0 0] 86)))), trivial⟩ (fun _ => ?_)
   clear hK K
   have hS0 := (HSC.out _ (HXr.out.trans ((Ext.refl wr).drew.alloc (.cells #[.int .i64 0, .int .i64 0, .slice none 0 0, .slice none 0 0] 86))))
   (try simp only [Act.put, ptA, ptB, ptC])
   refine wal (rs := [22]) (by kernel_rfl) (by simp) ?_
   refine AllE.cons rfl (fun K hK => ?_) AllE.nil
   simp only [List.getElem_toArray, List.getElem_cons_succ, List.getElem_cons_zero]
   go_simp
   go_at_call 213
   refine (HGP.out _ (HXr.out.trans ((Ext.refl wr).drew.alloc (.cells #[.int .i64 0, .int .i64 0, .slice none 0 0, .slice none 0 0] 86)))).mono ?_
   rintro z9 wG ⟨Ag, cg, rfl, hog, hxG⟩
   have hcur : Ext wr wG := ((Ext.refl wr).drew.alloc (.cells #[.int .i64 0, .int .i64 0, .slice none 0 0, .slice none 0 0] 86)).trans hxG
   simp only []
   refine hK.out _ _ ⟨fun _ => (HSC.out _ (HXr.out.trans hcur)), trivial⟩ (fun _ => ?_)
   clear hK K
   have hS0 := (HSC.out _ (HXr.out.trans hcur))
   (try simp only [Act.put, ptA, ptB, ptC])
   refine wpE_tk 23 66 (.agg #[.int .i64 (first + F), .int .i64 (first + T), .slice Ag GP.length cg, .slice none 0 0]) hS0 ?_ ?_
   ·intro w9 hT9; clear hT9; go_simp
   (try simp only [Act.put, ptA, ptB, ptC])
   have hsz9 : wr.heap.size < wr.drew.heap.size + 1 := Nat.lt_succ_self _
   obtain ⟨A8, c8, e8, _, hog2⟩ := own_rowN (Q := fun j => wr.heap.size < j) (own_int (P := fun j => wr.heap.size < j) hog) (fun j hj _ => hj) (fun j hj _ => by rw [World.size_alloc] at hj; omega)
   rw [← (Value.slice.inj e8).1] at hog2
   refine wal (rs := [25]) (by kernel_rfl) (by simp) ?_
   refine AllE.cons rfl (fun K hK => ?_) AllE.nil
   simp only [List.getElem_toArray, List.getElem_cons_succ, List.getElem_cons_zero]
   have hV : wG.heap[wr.heap.size]? = some (.cells #[.int .i64 0, .int .i64 0, .slice none 0 0, .slice none 0 0] 86 (0, 0)) := (hxG.block _ (by rw [World.size_alloc]; exact hsz9)).trans (haA wr.drew _ _ _ rfl)
   obtain ⟨A9, c9, e9, h9, hr9⟩ := Lay.own_row hog
   obtain ⟨e9a, _, e9c⟩ := Value.slice.inj e9
   rw [← e9a] at hr9
   rw [← e9c] at h9
   have HFIN := Hd (rl_box hV (by exact Nat.le_refl _) hcur (Lay.row_ext (Lay.row_mono (Q := fun j => wr.heap.size ≤ j ∧ j ≠ wr.heap.size) hog2 fun j hj hl => ⟨Nat.le_of_lt hj, by omega⟩) (Ext.refl _)) h9 (first + F) (first + T))
   have f0 := fof hV 0
   have f1 := fof hV 1
   have f2 := fof hV 2
   have f3 := fof hV 3
   have v0 := cof hV (i := 0) (u := .int .i64 0) rfl
   have v1 := cof hV (i := 1) (u := .int .i64 0) rfl
   have v2 := cof hV (i := 2) (u := .slice none 0 0) rfl
   have v3 := cof hV (i := 3) (u := .slice none 0 0) rfl
   clear hV e9 e9a e9c h9 hr9
   go_simp
   refine hK.out _ _ ⟨fun h => absurd h (by simp), trivial⟩ (fun _ => ?_)
   clear hK K
   (try simp only [Act.put, ptA, ptB, ptC])
   refine wpE_done (by kernel_rfl) ?_ _
   go_wp2_with fail
   go_meet
   case rel => exact HFIN.out
 obtain ⟨bl, Ag, cg, rfl, hwb, hgc, hbx, hrg, hx4⟩ := hcut
 rename World => w4
 have HX4 := Hd hx4
 have HB4 := Hd hbx
 have HRG := Hd hrg
 have hbl4 := lt_of_block hbx
 have HX24 := Hd (HXr.out.trans hx4)
 clear hx4 hbx hrg hcell
 go_wp2_with fail
 go_loopw [15] (fun s15 w' => RlN w4 bl (first + F) (first + T) (.slice Ag GP.length cg) p F s15 w') (fun s15 _ => toM T s15)
 case atStart => exact ⟨0, F, _, by omega, by omega, rfl, Mv.refl _ _, HB4.out, Lay.own_nil _ _ _ _ _⟩
 obtain ⟨j, k, nv, hj, hkF, rfl, hmv2, hbx, hon⟩ := hrel
 rename World => wv
 have HM2 := Hd hmv2
 have HBX := Hd hbx
 have HON := Hd hon
 have HX2v := Hd (hmv2.ext w2 (Nat.le_trans HXr.out.lt hwb) HX24.out)
 have hcell := HSC.out _ HX2v.out
 have k0 := cof hbx (i := 0) (u := .int .i64 (first + F)) rfl
 have k1 := cof hbx (i := 1) (u := .int .i64 (first + T)) rfl
 have k2 := cof hbx (i := 2) (u := .slice Ag GP.length cg) rfl
 have k3 := cof hbx (i := 3) (u := nv) rfl
 have HKF := Hd hkF
 clear hmv2 hbx hon
 by_cases hjl : j < l
 case neg =>
  obtain rfl : l = j := by omega
  obtain rfl : k = T := by have := HT.out; omega
  have hnj : ¬ ((k : Int) < (k : Int)) := by omega
  obtain ⟨An, cn, rfl, hcn, hrn⟩ := own_rowN (P := fun q => w4.heap.size ≤ q) (Q := fun q => w4.heap.size ≤ q) (own_int HON.out) (fun q hq _ => hq) (fun q hq _ => hq)
  have hll : (LN.take q).length = q := by rw [List.length_take, HLN.out]; omega
  have hlto := Lay.own_lt HOr.out
  have htl : p.take l = p := List.take_of_length_le (by omega)
  rw [htl] at hrn
  have HOX : kLn.own 86 wv w2.heap.size (fun j => w2.heap.size ≤ j) (.slice A11 q c11) (LN.take q) := Lay.own_keep HOr.out (Nat.le_trans HX4.out.lt HM2.out.size) fun e _ he => (HM2.out.keep e (by omega) (Nat.lt_of_lt_of_le he HX4.out.lt)).trans (HX4.out.block e he)
  have hrp : kLn.rep wv (fun j => w2.heap.size ≤ j ∧ (Value.slice A11 q c11).ownBlock ≠ some j) (⟨first + F, first + k, GP, ntsOf p⟩ : Ln) [.int .i64 (first + F), .int .i64 (first + k), .slice Ag GP.length cg, .slice An (ntsOf p).length cn] :=
   kLn_rep.2 ⟨Ag, _, cg, An, _, cn, rfl, hgc, by rw [htl] at hcn; exact hcn, Lay.row_mono (Lay.row_keep HRG.out HM2.out.size fun e he hl => HM2.out.keep e he.2 hl) fun e he hl => ⟨by have := HXr.out.lt; omega, fun e9 => by have := hlto e e9; omega⟩, Lay.row_mono hrn fun e he hl => ⟨by have := HXr.out.lt; have := HX4.out.lt; omega, fun e9 => by have := hlto e e9; have := HX4.out.lt; omega⟩⟩
  obtain ⟨A9, c9, w9, hrun, ho9, hb9, _, _, _⟩ := own_app1 (k := kLn) (Pr := Tryz.prog) (t := 82) Tryz.underlying82 info86 rfl (by decide) (by omega) HOX HX2v.out.lt (cs := #[.int .i64 (first + F), .int .i64 (first + k), .slice Ag GP.length cg, .slice An (ntsOf p).length cn]) (T := 86) (x := (⟨first + F, first + k, GP, ntsOf p⟩ : Ln)) hrp 1 (by rw [hll]; omega)
  rw [hll] at hrun ho9
  have hx9 : Ext w2 w9 := Below.trans HX2v.out (hb9 _ (Nat.le_refl _))
  have hcell9 := HSC.out _ hx9
  have HRUN := Hd hrun
  have HREL := Hd (show RlL w2 ls LN (.slice A9 (q + 1) c9) (.int .i64 (k : Int)) (.int .i64 ((q : Int) + 1)) w9 from ⟨q + 1, k, A9, c9, by omega, by simp, rfl, by rw [sum_take_succ ls HLI.out, ← HF.out, HT.out], rfl, hx9, by
   rw [List.take_add_one, HXL.out]
   exact ho9⟩)
  rw [htl] at k3
  clear hll hlto htl hrn HOX hrp hrun ho9 hb9 hx9 hcn hkF
  go_wp2_with (first | (at_builtin; refine wpList_append_run (s := .tmp 93) (x := .tmp 95) HRUN.out rfl rfl rfl rfl rfl ?_))
  go_roundw
  case rel => exact HREL.out
  case measure => simp only [toM]; omega
 have hkT : k < T := by have := HT.out; omega
 have hK : (k : Int) < (T : Int) := by omega
 have hKi : (k : Int) < (i : Int) := by omega
 obtain ⟨x, hxk⟩ : ∃ x, ws[k]? = some x := ⟨_, List.getElem?_eq_getElem (by have := HL.out; omega)⟩
 have hxj : p[j]? = some x := by rw [← HP.out, List.getElem?_take, if_pos hjl, List.getElem?_drop, ← hkF]; exact hxk
 obtain ⟨b9, o9, cs9, e9, hb9, hb9l, hrep, hcell9⟩ := Lay.row_at (Lay.row_ext HRS.out HX2v.out) hxk
 have e9b : b0 = b9 ∧ off = o9 := by
  have := Option.some.inj e9
  exact ⟨congrArg Addr.block this, congrArg Addr.off this⟩
 obtain ⟨rfl, rfl⟩ := e9b
 rw [kWd_rep] at hrep
 subst hrep
 have c3' := hcell9 3 _ rfl
 rw [kWd_sz] at c3'
 have hxv := (HV.out x (List.mem_of_getElem? hxk)).2
 have HNS := Hd (ntsOf_succ p hxj)
 have hnl := ntsOf_len (p.take j)
 rw [List.length_take] at hnl
 obtain ⟨x1, x2, x3, x4⟩ := x
 clear hcell9 hxj hxk hkF e9
 simp only at c3' hxv HNS
 by_cases hx4 : x4 = 0
 ·subst hx4
  go_wp2_with fail
  go_roundw
  case rel =>
   refine ⟨j + 1, k + 1, nv, by omega, by have := HKF.out; omega, by simp, HM2.out, HBX.out, ?_⟩
   rw [HNS.out, if_neg (by simp), List.append_nil]
   exact HON.out
  case measure => simp only [toM]; omega
 ·rw [if_pos hx4] at HNS
  have hx4b : (x4 == 0) = false := by rw [beq_eq_false_iff_ne]; exact hx4
  have i1 : IntKind.i64.wrap (x4 - 1) = x4 - 1 := IntWalk.i64_in _ (by omega)
  have hlto := Lay.own_lt HON.out
  have HOND : kInt.own 3 wv.drew w4.heap.size (fun _ => True) nv (ntsOf (p.take j)) := Lay.own_keep HON.out (Nat.le_refl _) fun _ _ _ => rfl
  obtain ⟨A9, c9, w9, hrun, ho9, hb9', hk9, hs9, hn9⟩ := own_app1 (k := kInt) (Pr := Tryz.prog) (t := 22) Tryz.underlying22 info3 rfl (by decide) (by omega) HOND HM2.out.size (cs := #[.int .i64 (x4 - 1)]) (T := 3) (x := x4 - 1) rfl 1 (by omega)
  have hbl2 := lt_of_block HBX.out
  have hM9 : Mv bl w4 w9 := HM2.out.app (fun q hq => hk9 q (Nat.lt_of_lt_of_le hq HM2.out.size) fun e => by have := (hlto q e).1; omega) hs9 fun B hB => Below.trans ((Below.refl B wv).drew) (hb9' B hB)
  have hb99 : w9.heap[bl]? = some (.cells #[.int .i64 (first + F), .int .i64 (first + T), .slice Ag GP.length cg, nv] 86 (0, 0)) := (hk9 bl hbl2 fun e => by have := (hlto bl e).1; omega).trans HBX.out
  have hown9 : kInt.own 3 (w9.setCell ⟨bl, 3, none⟩ (.slice A9 ((ntsOf (p.take j)).length + 1) c9)) w4.heap.size (fun _ => True) (.slice A9 ((ntsOf (p.take j)).length + 1) c9) (ntsOf (p.take (j + 1))) := by
   rw [HNS.out]
   exact own_int (P := fun _ => False) (Lay.own_keep (own_int ho9) (by simp) fun q hq hl => by
    rcases hq with hq | hq
    ·exact hq.elim
    ·have := (Lay.own_lt ho9 q hq).1
     exact heap_setCell_other _ ⟨bl, 3, none⟩ q _ (by show q ≠ bl; omega))
  have hbl9 : (w9.setCell ⟨bl, 3, none⟩ (.slice A9 ((ntsOf (p.take j)).length + 1) c9)).heap[bl]? = some (.cells #[.int .i64 (first + F), .int .i64 (first + T), .slice Ag GP.length cg, .slice A9 ((ntsOf (p.take j)).length + 1) c9] 86 (0, 0)) := by
   rw [heap_setCell_same _ bl 3 _ 86 _ hb99]
   rfl
  have HREL := Hd (show RlN w4 bl (first + F) (first + T) (.slice Ag GP.length cg) p F (.int .i64 ((k : Int) + 1)) (w9.setCell ⟨bl, 3, none⟩ (.slice A9 ((ntsOf (p.take j)).length + 1) c9)) from ⟨j + 1, k + 1, _, by omega, by have := HKF.out; omega, by simp, hM9.trans (Mv.set _), hbl9, hown9⟩)
  have HRUN := Hd (show (Builtin.append_ #[22, 22] 22 #[nv, .slice (some ⟨wv.heap.size, 0, none⟩) 1 1]).run Tryz.prog (wv.drew.alloc (.cells #[.int .i64 (x4 - 1)] 3)) = .ok (.slice A9 ((ntsOf (p.take j)).length + 1) c9) w9 from hrun)
  have hx9 : Ext w2 w9 := hM9.ext w2 (Nat.le_trans HXr.out.lt hwb) HX24.out
  have hb0w : b0 < w2.heap.size := by
   obtain ⟨_, _, _, e8, h8, _⟩ := Lay.row_at HRS.out (show ws[F]? = some (ws[F]'(by have := HL.out; omega)) from List.getElem?_eq_getElem _)
   have := congrArg Addr.block (Option.some.inj e8)
   simp only at this
   omega
  have HB99 := Hd hb99
  have HC0 := Hd (show (fun X : World => X.cell? ⟨bl, 3, none⟩ = some nv ∧ X.cell? ⟨b0, off + k * 4 + 3, none⟩ = some (.int .i64 x4)) wv from ⟨k3, c3'⟩)
  have HC1 := Hd (show (fun X : World => X.cell? ⟨bl, 3, none⟩ = some nv ∧ X.cell? ⟨b0, off + k * 4 + 3, none⟩ = some (.int .i64 x4)) (wv.drew.alloc (.cells #[.int .i64 (x4 - 1)] 3)) from
   have hx : Ext wv (wv.drew.alloc (.cells #[.int .i64 (x4 - 1)] 3)) := (Ext.refl wv).drew.alloc _
   ⟨(hx.cells.1 bl _ hbl2).trans k3, (hx.cells.1 b0 _ hb9).trans c3'⟩)
  have HC9 := Hd (show (fun X : World => X.cell? ⟨bl, 3, none⟩ = some nv ∧ X.cell? ⟨b0, off + k * 4 + 3, none⟩ = some (.int .i64 x4)) w9 from
   ⟨cof hb99 (i := 3) rfl, by
    have h1 := hx9.cells.1 b0 (off + k * 4 + 3) hb0w
    have h2 := HX2v.out.cells.1 b0 (off + k * 4 + 3) hb0w
    exact h1.trans (h2.symm.trans c3')⟩)
  clear hlto HOND ho9 hb9' hk9 hn9 hM9 hb99 hown9 hbl9 hrun hs9 hx9 hxv hnl
  go_upto_region 17 with (fail)
  have hS0 : (fun X : World => X.cell? ⟨bl, 3, none⟩ = some nv ∧ X.cell? ⟨b0, off + k * 4 + 3, none⟩ = some (.int .i64 x4)) wv.drew := HC0.out
  refine wp_region_E (fun X : World => X.cell? ⟨bl, 3, none⟩ = some nv ∧ X.cell? ⟨b0, off + k * 4 + 3, none⟩ = some (.int .i64 x4)) (fun _ => True) (fun i => i == 11) (by kernel_rfl) ?_
  refine wpE_tk 0 82 (.pointer (some ⟨bl, 3, none⟩)) hS0 ?_ ?_
  ·intro w9 hT9; clear hT9; go_simp
  (try simp only [Act.put, ptA, ptB, ptC])
  refine wpE_tk 1 83 (nv) hS0 ?_ ?_
  ·intro w9 hT9; obtain ⟨y0, y1⟩ := hT9; go_simp
  (try simp only [Act.put, ptA, ptB, ptC])
  refine wpE_tk 2 84 (.slice (some ⟨b0, off, none⟩) i c) hS0 ?_ ?_
  ·intro w9 hT9; clear hT9; go_simp
  (try simp only [Act.put, ptA, ptB, ptC])
  refine wpE_tk 3 85 (.int .i64 (k : Int)) hS0 ?_ ?_
  ·intro w9 hT9; clear hT9; go_simp
  (try simp only [Act.put, ptA, ptB, ptC])
  refine wpE_tk 4 86 (.pointer (some ⟨b0, off + k * 4, none⟩)) hS0 ?_ ?_
  ·intro w9 hT9; clear hT9; go_simp
  (try simp only [Act.put, ptA, ptB, ptC])
  refine wpE_tk 5 87 (.pointer (some ⟨b0, off + k * 4 + 3, none⟩)) hS0 ?_ ?_
  ·intro w9 hT9; clear hT9; go_simp
  (try simp only [Act.put, ptA, ptB, ptC])
  refine wpE_tk 6 88 (.int .i64 x4) hS0 ?_ ?_
  ·intro w9 hT9; obtain ⟨y0, y1⟩ := hT9; go_simp
  (try simp only [Act.put, ptA, ptB, ptC])
  refine wpE_tk 7 89 (.int .i64 (x4 - 1)) hS0 ?_ ?_
  ·intro w9 hT9; clear hT9; go_simp
  (try simp only [Act.put, ptA, ptB, ptC])
  refine wal (rs := [8]) (by kernel_rfl) (by simp) ?_
  refine AllE.cons rfl (fun K hK => ?_) AllE.nil
  simp only [List.getElem_toArray, List.getElem_cons_succ, List.getElem_cons_zero]
  go_simp
  refine hK.out _ _ ⟨fun _ => HC1.out, trivial⟩ (fun _ => ?_)
  clear hK K
  have hS0 := HC1.out
  (try simp only [Act.put, ptA, ptB, ptC])
  refine wal (rs := [9]) (by kernel_rfl) (by simp) ?_
  refine AllE.cons rfl (fun K hK => ?_) AllE.nil
  simp only [List.getElem_toArray, List.getElem_cons_succ, List.getElem_cons_zero]
  refine step_append_tm (s := .tmp 83) (x := .tmp 90) HRUN.out rfl rfl rfl rfl rfl ?_
  refine hK.out _ _ ⟨fun _ => HC9.out, trivial⟩ (fun _ => ?_)
  clear hK K
  have hS0 := HC9.out
  (try simp only [Act.put, ptA, ptB, ptC])
  refine wpE_tk 10 92 (.pointer (some ⟨bl, 3, none⟩)) hS0 ?_ ?_
  ·intro w9 hT9; clear hT9; go_simp
  (try simp only [Act.put, ptA, ptB, ptC])
  refine wal (rs := [11]) (by kernel_rfl) (by simp) ?_
  refine AllE.cons rfl (fun K hK => ?_) AllE.nil
  simp only [List.getElem_toArray, List.getElem_cons_succ, List.getElem_cons_zero]
  have z5 := HC9.out.1
  have z6 := fof HB99.out 3
  go_simp
  refine hK.out _ _ ⟨fun h => absurd h (by simp), trivial⟩ (fun _ => ?_)
  clear hK K
  (try simp only [Act.put, ptA, ptB, ptC])
  refine wpE_done (by kernel_rfl) ?_ _
  go_wp2_with fail
  go_roundw
  case rel => exact HREL.out
  case measure => simp only [toM]; omega
end Go.Proofs.YtdbnddmncbjobaaGreatDoor
