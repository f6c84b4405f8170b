/- book.cloned: walked. -/
import Derived.Test.YtdbnddmncbjobaaGreatDoorMao
namespace Go.Proofs.YtdbnddmncbjobaaGreatDoor
section
open Go Go.RowKit
theorem info46 : (Tryz.prog.info? 46).map (fun i => (i.zero, i.size, i.bytes)) = some (some (Value.agg #[.int .i64 0, .bool false, .slice none 0 0, .slice none 0 0]), 4, 64) := by kernel_rfl
theorem info53 : (Tryz.prog.info? 53).map (fun i => (i.zero, i.size, i.bytes)) = some (some (Value.agg #[.slice none 0 0, .slice none 0 0]), 2, 48) := by kernel_rfl
theorem cp_secs (W : World) (P : Nat → Prop) (A : Option Addr) (n c : Nat) (ls : List Se) (h : kSe.row W P A n ls) (hn : n ≤ 1000000) : ∃ (Z : Array Value) (ds0 : List (Cs kSe.sz)), (∀ X, (Instr.makeSlice 25 (.int .i64 (n : Int)) (.int .i64 (n : Int))).run Tryz.prog X = .ok (.slice (some ⟨X.heap.size, 0, none⟩) n n) (X.alloc (.cells Z 46))) ∧
  ∃ v w2, (Builtin.copy_ #[25, 25] 3 #[.slice (some ⟨W.heap.size, 0, none⟩) n n, .slice A n c]).run Tryz.prog (W.alloc (.cells Z 46)) = .ok v w2 ∧ w2.heap[W.heap.size]? = some (.cells (gcells ccf ds0).toArray 46 (0, 0)) ∧ Ext W w2 ∧ ds0.length = ls.length ∧
   ∀ (j : Nat) (d : Cs kSe.sz) (x : Se), ds0[j]? = some d → ls[j]? = some x → kSe.rep W P x (ccf d) := by
 have hmk := fun X => run_mk (P := Tryz.prog) Tryz.underlying25 info46 (by omega) n hn (n : Int) rfl X
 obtain ⟨Z, hZ⟩ : ∃ Z, madeCells (Value.agg #[.int .i64 0, .bool false, .slice none 0 0, .slice none 0 0]).cells (n * 4) = Z := ⟨_, rfl⟩
 simp only [hZ] at hmk
 have hzl : Z.size = n * kSe.sz := by
  have h9 := congrArg List.length (made_flat #[.int .i64 0, .bool false, .slice none 0 0, .slice none 0 0] (by decide) n)
  rw [List.length_flatten, List.map_replicate, List.sum_replicate_nat] at h9
  rw [← hZ]
  exact h9
 obtain ⟨ds0, q1, q2, q3, q4, q5⟩ := h
 refine ⟨Z, ds0, hmk, ?_⟩
 rcases Nat.eq_zero_or_pos n with h0 | h0
 ·have hds : ds0 = [] := List.eq_nil_of_length_eq_zero (by omega)
  have hz0 : Z = #[] := Array.eq_empty_of_size_eq_zero (by rw [hzl, h0]; omega)
  refine ⟨_, _, run_copy_zero (P := Tryz.prog) (W.alloc (.cells Z 46)) 25 25 3 46 _ A n n n c 4 Tryz.underlying25 (by kernel_rfl) (by rw [h0]; rfl), ?_, (Ext.refl W).alloc _, q2, q5⟩
  rw [hds, hz0]
  exact heap_alloc_new W _
 ·obtain ⟨b0, off, rfl, hb0, hcs⟩ := q3.2 h0
  have hgl : (gcells ccf ds0).length = n * kSe.sz := by rw [gcells_len ccf_len, q2, ← q1]
  have hcpy := run_copy_sz (P := Tryz.prog) (W.alloc (.cells Z 46)) 25 25 3 46 W.heap.size 0 n n kSe.sz ⟨b0, off, none⟩ n c Z 46 (gcells ccf ds0) Tryz.underlying25 (by kernel_rfl) (heap_alloc_new W _) (by rw [hgl]; exact congrArg (· * kSe.sz) (Nat.min_self n).symm) (fun j u hu => by
   have hj : j < ds0.length * kSe.sz := by rw [← gcells_len (cf := ccf) ccf_len]; exact (List.getElem?_eq_some_iff.1 hu).1
   have hjs : j / kSe.sz < ds0.length := Nat.div_lt_of_lt_mul (by rw [Nat.mul_comm]; exact hj)
   have e : j = j / kSe.sz * kSe.sz + j % kSe.sz := by rw [Nat.mul_comm]; exact (Nat.div_add_mod j kSe.sz).symm
   have hmod : j % kSe.sz < kSe.sz := Nat.mod_lt _ (by rw [kSe_sz]; omega)
   rw [e, gcells_at ccf_len ds0 (j / kSe.sz) _ (List.getElem?_eq_getElem hjs) (j % kSe.sz) hmod] at hu
   have := hcs (j / kSe.sz) _ (List.getElem?_eq_getElem hjs) (j % kSe.sz) u hu
   rw [Nat.add_assoc, ← e] at this
   rw [Addr.add_lit]
   exact (((Ext.refl W).alloc (.cells Z 46)).cells.1 b0 _ hb0).trans this) (by rw [hgl]; omega) (gcells_one ccf_one ds0)
  refine ⟨_, _, hcpy, ?_, below_setRow ((Ext.refl W).alloc _) (Nat.le_refl _) _, q2, q5⟩
  rw [setRow_heap (W.alloc (.cells Z 46)) W.heap.size Z _ 46 (0, 0) (heap_alloc_new W _), hgl, List.take_zero, List.nil_append, List.drop_of_length_le (by rw [Array.length_toList, hzl]; omega), List.append_nil]
theorem mkTexts (n : Nat) (hn : n ≤ 1000000) : ∃ Z : Array Value, (∀ W (b : Nat) (w : World) P, W.heap[b]? = some (.cells Z 53 (0, 0)) → w.heap.size ≤ b → kTx.own 53 W w.heap.size P (.slice (some ⟨b, 0, none⟩) n n) (List.replicate n ⟨[], []⟩)) ∧
  ∀ W, (Instr.makeSlice 44 (.int .i64 (n : Int)) (.int .i64 (n : Int))).run Tryz.prog W = .ok (.slice (some ⟨W.heap.size, 0, none⟩) n n) (W.alloc (.cells Z 53)) := by
 refine ⟨_, fun W b w P h hb => ?_, fun W => run_mk (P := Tryz.prog) Tryz.underlying44 info53 (by omega) n hn (n : Int) rfl W⟩
 refine own_zero (k := kTx) 53 w P ⟨[], []⟩ [.slice none 0 0, .slice none 0 0] (fun W Q => kTx_rep.2 ⟨none, 0, 0, none, 0, 0, rfl, Nat.le_refl _, Nat.le_refl _, Lay.row_nil _ _ _, Lay.row_nil _ _ _⟩) n hn _ ?_ W b h hb
 exact made_flat #[.slice none 0 0, .slice none 0 0] (by decide) n
def BkO (W : World) (base : Nat) (ls : List Se) (g : Nat) : Prop := ∃ ds : List (Cs kSe.sz), base ≤ g ∧ W.heap[g]? = some (.cells (gcells ccf ds).toArray 46 (0, 0)) ∧ ds.length = ls.length ∧ ∀ (j : Nat) (d : Cs kSe.sz) (x : Se), ds[j]? = some d → ls[j]? = some x → kSe.rep W (fun q => g < q) x (ccf d)
theorem BkO.row {W : World} {base : Nat} {ls : List Se} {g : Nat} (h : BkO W base ls g) : kSe.row W (fun q => base ≤ q) (some ⟨g, 0, none⟩) ls.length ls := by
 obtain ⟨ds, h0, h1, h2, h3⟩ := h
 exact Lay.row_mono (CdR_row rfl h1 h2 h3) fun j hj _ => Nat.le_trans h0 hj
def BkQ (W : World) (base : Nat) (ls : List Se) (g : Nat) : Prop := ∃ (ds : List (Cs kSe.sz)) (lo : Nat → Nat), base ≤ g ∧ W.heap[g]? = some (.cells (gcells ccf ds).toArray 46 (0, 0)) ∧ ds.length = ls.length ∧ (g < lo 0 ∧ (∀ j, j < ls.length → lo j ≤ lo (j + 1)) ∧ lo ls.length ≤ W.heap.size) ∧ ∀ (j : Nat) (d : Cs kSe.sz) (x : Se), ds[j]? = some d → ls[j]? = some x → SeO W (lo j) (lo (j + 1)) x (ccf d)
theorem BkQ.bko {W : World} {base : Nat} {ls : List Se} {g : Nat} (h : BkQ W base ls g) : BkO W base ls g := by
 obtain ⟨ds, lo, h0, h1, h2, ⟨l1, l2, l3⟩, h3⟩ := h
 refine ⟨ds, h0, h1, h2, fun j d x hd hx => kSe.mono (h3 j d x hd hx).rep fun q hq _ => ?_⟩
 have := lo_mono l2 j 0 (by omega) (by have := (List.getElem?_eq_some_iff.1 hx).1; omega)
 omega
def CdT (w4 : World) (gt : Nat) (ts : List Tx) (s31 : Value) (w' : World) : Prop := ∃ k : Nat, k ≤ ts.length ∧ s31 = .int .i64 k ∧ Mv gt w4 w' ∧ kTx.own 53 w' gt (fun q => gt < q) (.slice (some ⟨gt, 0, none⟩) ts.length ts.length) (ts.take k ++ List.replicate (ts.length - k) ⟨[], []⟩)
set_option maxHeartbeats 8000000 in
set_option maxRecDepth 100000 in
theorem cloned_own (P : Nat → Prop) (w : World) (b : Bk) (A : Option Addr) (n c : Nat) (h : kSe.row w P A n b.secs) (hs : BkS b.secs) :
  Calls Tryz.prog 76 #[.agg #[.int .i64 b.ms, .int .i64 b.ht, .slice A n c]] w (fun e w' => ∃ g, e = .returned (.agg #[.int .i64 b.ms, .int .i64 b.ht, .slice (some ⟨g, 0, none⟩) n n]) ∧ BkQ w' w.heap.size b.secs g ∧ Ext w w') := by
 have hn : n ≤ 1000000 := by have := Lay.row_len h; have := hs.n; omega
 obtain ⟨b1, hb1⟩ : ∃ b1, w.heap.size = b1 := ⟨_, rfl⟩
 have HBE := Hd hb1
 have HL := Hd (Lay.row_len h)
 have HS := Hd hs
 have HH := Hd h
 clear h hs
 go_enter Tryz.func76, Tryz.ntmps76
 go_upto_region 1 with (fail)
 obtain ⟨W0, hW0⟩ : ∃ W0, (w.alloc (.cells #[.int .i64 b.ms, .int .i64 b.ht, .slice A n c] 27)).alloc (.cells #[.int .i64 0, .int .i64 0, .slice none 0 0] 27) = W0 := ⟨_, rfl⟩
 rw [hW0]
 have hx0 : Ext w W0 := by rw [← hW0]; exact ((Ext.refl w).alloc _).alloc _
 have hB1 : W0.heap[b1]? = some (.cells #[.int .i64 b.ms, .int .i64 b.ht, .slice A n c] 27 (0, 0)) := by
  rw [← hW0, ← hb1]
  exact (Below.heap_alloc _ _ _ (by simp)).trans (heap_alloc_new w _)
 have hB2 : W0.heap[b1 + 1]? = some (.cells #[.int .i64 0, .int .i64 0, .slice none 0 0] 27 (0, 0)) := by
  rw [← hW0, ← hb1]
  have := heap_alloc_new (w.alloc (.cells #[.int .i64 b.ms, .int .i64 b.ht, .slice A n c] 27)) (.cells #[.int .i64 0, .int .i64 0, .slice none 0 0] 27)
  rwa [World.size_alloc] at this
 have hsz : W0.heap.size = b1 + 2 := by rw [← hW0]; simp only [World.size_alloc]; omega
 obtain ⟨Z, ds0, hmk, vc, w2, hcpy, hg2, hx2, hdl, hd0⟩ := cp_secs W0 P A n c b.secs (Lay.row_ext HH.out hx0) hn
 obtain ⟨g, hg⟩ : ∃ g, W0.heap.size = g := ⟨_, rfl⟩
 have HCPY := Hd hcpy
 have HB1 := Hd hB1
 have HB2 := Hd hB2
 have HX0 := Hd hx0
 have HX2 := Hd hx2
 rw [hg] at hg2 hsz HCPY
 have HG2 := Hd hg2
 have HD0 := Hd hd0
 have HDL := Hd hdl
 have HBA := Hd (fun X (hX : Ext W0 X) => (show X.cell? ⟨b1, 0, none⟩ = some (.int .i64 b.ms) ∧ X.cell? ⟨b1, 1, none⟩ = some (.int .i64 b.ht) ∧ X.cell? ⟨b1, 2, none⟩ = some (.slice A n c) from
  ⟨cof ((hX.block _ (lt_of_block HB1.out)).trans HB1.out) rfl, cof ((hX.block _ (lt_of_block HB1.out)).trans HB1.out) rfl, cof ((hX.block _ (lt_of_block HB1.out)).trans HB1.out) rfl⟩)) 
 have d2 := (HBA.out W0 (Ext.refl _)).2.2
 have d2' := (HBA.out (W0.alloc (.cells Z 46)) ((Ext.refl _).alloc _)).2.2
 have lb1 : b1 < g := by omega
 have HBW := Hd (show b1 + 2 = g from hsz.symm)
 clear hcpy hB1 hB2 hx0 hx2 hg2 hd0 hdl hW0 hsz
 go_wp2_with (first | (refine wpList_copy_run' (s := .tmp 13) (x := .tmp 15) HCPY.out rfl rfl rfl rfl ?_))
 go_loopw [4, 5, 6, 19] (fun _ _ _ s19 w' => CdR W0 P g b.secs s19 w') (fun _ _ _ s19 _ => toM n s19)
 case atStart => exact ⟨0, ds0, fun _ => g + 1, by omega, rfl, HX2.out, HG2.out, HDL.out, ⟨Nat.lt_succ_self _, fun j hj => Nat.le_refl _, lt_of_block HG2.out⟩, fun j d x hd hx => ⟨fun h => by omega, fun _ => HD0.out j d x hd hx⟩⟩
 obtain ⟨i, ds, lo, hi, rfl, hx, hgr, hdl, hlo, hd⟩ := hrel
 have HLO := Hd hlo
 clear hlo
 have HXr := Hd hx
 have HG := Hd hgr
 have HDS := Hd hd
 clear hx hgr hd
 by_cases hlt : i < n
 case neg =>
  obtain rfl : n = i := by have := HL.out; omega
  have hni : ¬ ((n : Int) < (n : Int)) := by omega
  have e1 := (HXr.out.block _ (lt_of_block HB1.out)).trans HB1.out
  have e2 := (HXr.out.block _ (lt_of_block HB2.out)).trans HB2.out
  have a0 := cof e1 (i := 0) rfl
  have a1 := cof e1 (i := 1) rfl
  have a2 := cof e1 (i := 2) rfl
  have a3 := fof e1 2
  have f0 := cof e2 (i := 0) rfl
  have f1 := cof e2 (i := 1) rfl
  have f2 := cof e2 (i := 2) rfl
  have f3 := fof e2 0
  have f4 := fof e2 1
  have f5 := fof e2 2
  have hne : ¬ b1 = b1 + 1 := by omega
  have hne2 : ¬ b1 + 1 = b1 := by omega
  have HFN := Hd (show BkQ ((((wr.setCell ⟨b1, 2, none⟩ (.slice (some ⟨g, 0, none⟩) n n)).setCell ⟨b1 + 1, 0, none⟩ (.int .i64 b.ms)).setCell ⟨b1 + 1, 1, none⟩ (.int .i64 b.ht)).setCell ⟨b1 + 1, 2, none⟩ (.slice (some ⟨g, 0, none⟩) n n)) w.heap.size b.secs g ∧ Ext w ((((wr.setCell ⟨b1, 2, none⟩ (.slice (some ⟨g, 0, none⟩) n n)).setCell ⟨b1 + 1, 0, none⟩ (.int .i64 b.ms)).setCell ⟨b1 + 1, 1, none⟩ (.int .i64 b.ht)).setCell ⟨b1 + 1, 2, none⟩ (.slice (some ⟨g, 0, none⟩) n n)) ∧
   ((((wr.setCell ⟨b1, 2, none⟩ (.slice (some ⟨g, 0, none⟩) n n)).setCell ⟨b1 + 1, 0, none⟩ (.int .i64 b.ms)).setCell ⟨b1 + 1, 1, none⟩ (.int .i64 b.ht)).setCell ⟨b1 + 1, 2, none⟩ (.slice (some ⟨g, 0, none⟩) n n)).heap[b1 + 1]? = some (.cells #[.int .i64 b.ms, .int .i64 b.ht, .slice (some ⟨g, 0, none⟩) n n] 27 (0, 0)) by
   have hbe := HBE.out
   have hbw := HBW.out
   have hkp : ∀ j, g ≤ j → ((((wr.setCell ⟨b1, 2, none⟩ (.slice (some ⟨g, 0, none⟩) n n)).setCell ⟨b1 + 1, 0, none⟩ (.int .i64 b.ms)).setCell ⟨b1 + 1, 1, none⟩ (.int .i64 b.ht)).setCell ⟨b1 + 1, 2, none⟩ (.slice (some ⟨g, 0, none⟩) n n)).heap[j]? = wr.heap[j]? := fun j hj => by
    rw [heap_setCell_other _ ⟨b1 + 1, 2, none⟩ j _ (by show j ≠ b1 + 1; omega), heap_setCell_other _ ⟨b1 + 1, 1, none⟩ j _ (by show j ≠ b1 + 1; omega), heap_setCell_other _ ⟨b1 + 1, 0, none⟩ j _ (by show j ≠ b1 + 1; omega), heap_setCell_other _ ⟨b1, 2, none⟩ j _ (by show j ≠ b1; omega)]
   refine ⟨⟨ds, lo, by omega, (hkp g (Nat.le_refl _)).trans HG.out, hdl, ⟨HLO.out.1, fun j hj => HLO.out.2.1 j (by have := HL.out; omega), by have h9 := HLO.out.2.2; have h8 := HL.out; rw [← h8]; simpa using h9⟩, fun j d x hd hx => ((HDS.out j d x hd hx).1 (by have := HL.out; have := (List.getElem?_eq_some_iff.1 hx).1; omega)).keep (by simp) fun q hq _ _ => hkp q (by have h9 := HLO.out.1; have h8 := lo_mono HLO.out.2.1 j 0 (by omega) (by have := HL.out; have := (List.getElem?_eq_some_iff.1 hx).1; omega); omega)⟩, ((((HX0.out.trans HXr.out).setCell (p := ⟨b1, 2, none⟩) (by show w.heap.size ≤ b1; omega) _).setCell (p := ⟨b1 + 1, 0, none⟩) (by show w.heap.size ≤ b1 + 1; omega) _).setCell (p := ⟨b1 + 1, 1, none⟩) (by show w.heap.size ≤ b1 + 1; omega) _).setCell (p := ⟨b1 + 1, 2, none⟩) (by show w.heap.size ≤ b1 + 1; omega) _, ?_⟩
   ·rw [heap_setCell_same _ (b1 + 1) 2 _ 27 _ (heap_setCell_same _ (b1 + 1) 1 _ 27 _ (heap_setCell_same _ (b1 + 1) 0 _ 27 _ ((heap_setCell_other _ ⟨b1, 2, none⟩ (b1 + 1) _ (by show b1 + 1 ≠ b1; omega)).trans e2)))]
    rfl)
  have z0 := cof HFN.out.2.2 (i := 0) rfl
  have z1 := cof HFN.out.2.2 (i := 1) rfl
  have z2 := cof HFN.out.2.2 (i := 2) rfl
  clear e1 e2
  go_wp2_with fail
  refine bodyPost_ret (v := .agg #[.int .i64 b.ms, .int .i64 b.ht, .slice (some ⟨g, 0, none⟩) n n]) (by simp [results, Tryz.results76, go_sem, *]) rfl ?_
  exact ⟨g, rfl, by first | exact HFN.out.1 | (have h9 := HFN.out.1; simp only [HBE.out] at h9; exact h9), HFN.out.2.1⟩
 have hI : (i : Int) < (n : Int) := by omega
 obtain ⟨x, hx⟩ : ∃ x, b.secs[i]? = some x := ⟨_, List.getElem?_eq_getElem (by have := HL.out; omega)⟩
 obtain ⟨d, hdi⟩ : ∃ d, ds[i]? = some d := ⟨_, List.getElem?_eq_getElem (by have := HL.out; omega)⟩
 have hrep := (HDS.out i d x hdi hx).2 (Nat.le_refl _)
 obtain ⟨A1, n1, c1, A2, n2, c2, hdc, h1, h2, hr1, hr2⟩ := kSe_rep.1 hrep
 have hcl : ∀ k u, (ccf d)[k]? = some u → wr.cell? ⟨g, i * 4 + k, none⟩ = some u := fun k u hu => by
  have hk : k < kSe.sz := by rw [← ccf_len d]; exact (List.getElem?_eq_some_iff.1 hu).1
  have h9 := gcells_at (cf := ccf) ccf_len ds i d hdi k hk
  rw [hu] at h9
  have h9' : (gcells ccf ds)[i * 4 + k]? = some u := h9
  exact cof HG.out (by simpa using h9')
 rw [hdc] at hcl
 have e0 := hcl 0 _ rfl
 have e1 := hcl 1 _ rfl
 have e2 := hcl 2 _ rfl
 have e3 := hcl 3 _ rfl
 rw [Nat.add_zero] at e0
 have HR1 := Hd (Lay.row_ext hr1 HXr.out)
 have HR2 := Hd (Lay.row_ext hr2 HXr.out)
 have hnv := HS.out.nv x (List.mem_of_getElem? hx)
 have hnt := HS.out.nt x (List.mem_of_getElem? hx)
 have HTS := Hd (HS.out.tx x (List.mem_of_getElem? hx))
 have HEv := Hd (Lay.row_len hr1)
 have HEt := Hd (Lay.row_len hr2)
 have HXI := Hd hx
 have hgl : g < wr.heap.size := lt_of_block HG.out
 obtain ⟨ZT, hzt, hmkt⟩ := mkTexts n2 (by have := HEt.out; omega)
 have HZT := Hd hzt
 obtain ⟨x1, x2, x3, x4⟩ := x
 simp only at e0 e1 HR1 HR2 hnv hnt HTS HEv HEt
 clear hcl hrep hr1 hr2 hx hzt hdc hdi
 go_wp2_with fail
 obtain ⟨w4, hw4⟩ : ∃ w4, (wr.alloc (.cells #[.int .i64 x1, .bool x2, .slice A1 n1 c1, .slice A2 n2 c2] 46)).alloc (.cells ZT 53) = w4 := ⟨_, rfl⟩
 rw [hw4]
 obtain ⟨gt, hgt⟩ : ∃ gt, wr.heap.size + 1 = gt := ⟨_, rfl⟩
 rw [hgt]
 have HX4 := Hd (show Ext wr w4 by rw [← hw4]; exact ((Ext.refl wr).alloc _).alloc _)
 have HSB := Hd (show w4.heap[wr.heap.size]? = some (.cells #[.int .i64 x1, .bool x2, .slice A1 n1 c1, .slice A2 n2 c2] 46 (0, 0)) by
  rw [← hw4]
  exact (Below.heap_alloc _ _ _ (by simp)).trans (heap_alloc_new wr _))
 have HO4 := Hd (show kTx.own 53 w4 gt (fun q => gt < q) (.slice (some ⟨gt, 0, none⟩) n2 n2) (List.replicate n2 ⟨[], []⟩) by
  have h9 := HZT.out w4 gt (wr.alloc (.cells #[.int .i64 x1, .bool x2, .slice A1 n1 c1, .slice A2 n2 c2] 46)) (fun q => gt < q) (by
   rw [← hw4, ← hgt]
   have := heap_alloc_new (wr.alloc (.cells #[.int .i64 x1, .bool x2, .slice A1 n1 c1, .slice A2 n2 c2] 46)) (.cells ZT 53)
   rwa [World.size_alloc] at this) (by rw [World.size_alloc]; omega)
  rw [World.size_alloc, hgt] at h9
  exact h9)
 have h4s : gt < w4.heap.size := by rw [← hw4, World.size_alloc, World.size_alloc]; omega
 have hgg : g < gt := by omega
 have HSBG := Hd (show wr.heap.size < gt by omega)
 clear hw4 hgt
 go_loopw [7, 8, 31] (fun _ _ s31 w' => CdT w4 gt x4 s31 w') (fun _ _ s31 _ => toM n2 s31)
 case atStart => exact ⟨0, by omega, rfl, Mv.refl _ _, by have h9 := HO4.out; rw [HEt.out] at h9; simpa using h9⟩
 rename World => wq
 obtain ⟨k, hk, rfl, hmv, ho⟩ := hrel
 have HMV := Hd hmv
 have HO := Hd ho
 have HXQ := Hd (hmv.ext wr (Nat.le_of_lt HSBG.out) HX4.out)
 have hsbq := (hmv.keep wr.heap.size (by have := HSBG.out; omega) (by have := HSBG.out; omega)).trans HSB.out
 clear hmv ho
 by_cases hlk : k < n2
 case neg =>
  obtain rfl : n2 = k := by have := HEt.out; omega
  have hnk : ¬ ((n2 : Int) < (n2 : Int)) := by omega
  have s2 := cof hsbq (i := 2) rfl
  have HTR := Hd (show kTx.own 53 wq gt (fun q => gt < q) (.slice (some ⟨gt, 0, none⟩) n2 n2) x4 by
   have h9 := HO.out
   have h8 := HEt.out
   rw [← h8, Nat.sub_self, List.replicate_zero, List.append_nil, List.take_of_length_le (by omega)] at h9
   exact h9)
  have HCL := Hd (clone_int P (fun _ => False) wq A1 n1 c1 x3 (Lay.row_ext HR1.out HXQ.out) (by have := HEv.out; omega))
  have HFZ := Hd (show ∀ X, Ext wr X → (∃ u, X.cell? ⟨g, i * 4 + 2, none⟩ = some u) ∧ (∃ u, X.cell? ⟨g, i * 4 + 3, none⟩ = some u) ∧ X.frozen? ⟨g, i * 4 + 2, none⟩ = false ∧ X.frozen? ⟨g, i * 4 + 3, none⟩ = false from fun X hX => by
   have h9 := (hX.block _ hgl).trans HG.out
   have hl9 : (gcells ccf ds).length = ds.length * 4 := gcells_len ccf_len ds
   exact ⟨⟨_, cof h9 (Array.getElem?_eq_getElem (by rw [List.size_toArray, hl9, hdl]; have := HL.out; omega))⟩, ⟨_, cof h9 (Array.getElem?_eq_getElem (by rw [List.size_toArray, hl9, hdl]; have := HL.out; omega))⟩, fof h9 _, fof h9 _⟩)
  go_wp2_with fail
  refine HCL.out.mono ?_
  rintro e w6 ⟨A7, c7, rfl, h7, ho7, hx7⟩
  have hcur : Ext wr w6 := HXQ.out.trans hx7
  obtain ⟨⟨u2, f0⟩, ⟨u3, f1⟩, f2, f3⟩ := HFZ.out _ hcur
  have hlt7 := Lay.own_lt ho7
  have HST := Hd (CdR_step (P := P) (lo := lo) HXr.out hcur (by omega) HG.out hdl HXI.out HLO.out HDS.out (A1 := A7) (n1 := n1) (c1 := c7) (A2 := some ⟨gt, 0, none⟩) (n2 := n2) (c2 := n2)
   ⟨wq.heap.size, A7, n1, c7, some ⟨gt, 0, none⟩, n2, n2, rfl, Nat.le_trans HLO.out.2.2 HXQ.out.lt, hx7.lt, h7, Nat.le_refl n2, HEv.out, HEt.out,
    Lay.own_base (Lay.own_ext (Lay.own_bd HTR.out (fun q hq hl => ⟨by have := HLO.out.2.2; have := HSBG.out; omega, hl⟩)) hx7) (by have := HLO.out.2.2; have := HSBG.out; omega), fun j hj => (Lay.own_lt HTR.out j hj).2, ho7, fun j hj => (hlt7 j hj).2⟩)
  clear ho7 hx7
  go_wp2_with fail
  go_roundw
  case rel => exact HST.out
  case measure => simp only [toM]; omega
 have hK : (k : Int) < (n2 : Int) := by omega
 obtain ⟨tx, htx⟩ : ∃ tx, x4[k]? = some tx := ⟨_, List.getElem?_eq_getElem (by have := HEt.out; omega)⟩
 obtain ⟨b5, o5, cs5, rfl, hb5, _, hrep5, hcell5⟩ := Lay.row_at (Lay.row_ext HR2.out HXQ.out) htx
 obtain ⟨A5, n5, c5, A6, n6, c6, rfl, h5, h6, hr5, hr6⟩ := kTx_rep.1 hrep5
 have y0 := hcell5 0 _ rfl
 have y1 := hcell5 1 _ rfl
 rw [kTx_sz] at y0 y1
 rw [Nat.add_zero] at y0
 have hts := HTS.out tx (List.mem_of_getElem? htx)
 have HTX := Hd (fun X (hX : Ext wq X) => text_any P X tx A5 A6 n5 n6 c5 c6 (Lay.row_ext hr5 hX) (Lay.row_ext hr6 hX) (by have := Lay.row_len hr5; have := hts.np; omega) (by have := Lay.row_len hr6; have := hts.nn; omega) hts.len)
 have HTI := Hd htx
 have hgq : gt < wq.heap.size := Nat.lt_of_lt_of_le h4s HMV.out.size
 clear hcell5 hrep5 hr5 hr6 htx
 go_wp2_with fail
 refine (HTX.out _ ((Ext.refl wq).alloc _)).mono ?_
 rintro e w6 ⟨v, rfl, ⟨A7, n7, c7, A8, n8, c8, rfl, h7, h8, hr7, hr8⟩, hx6⟩
 have hxq6 : Ext wq w6 := ((Ext.refl wq).alloc _).trans hx6
 have ho6 := Lay.own_ext HO.out hxq6
 obtain ⟨cur, hcurB, hcs⟩ := own_block ho6
 have hlen6 : (x4.take k ++ List.replicate (x4.length - k) (⟨[], []⟩ : Tx)).length = n2 := by rw [List.length_append, List.length_take, List.length_replicate]; have := HEt.out; omega
 rw [hlen6, kTx_sz] at hcs
 obtain ⟨v0, g0⟩ : ∃ v, w6.cell? ⟨gt, k * 2, none⟩ = some v := ⟨_, cof hcurB (Array.getElem?_eq_getElem (by omega))⟩
 obtain ⟨v1, g1⟩ : ∃ v, w6.cell? ⟨gt, k * 2 + 1, none⟩ = some v := ⟨_, cof hcurB (Array.getElem?_eq_getElem (by omega))⟩
 have g2 := fof hcurB (k * 2)
 have g3 := fof hcurB (k * 2 + 1)
 have HREL := Hd (show CdT w4 gt x4 (.int .i64 ((k : Int) + 1)) ((w6.setCell ⟨gt, k * 2, none⟩ (.slice A7 n7 c7)).setCell ⟨gt, k * 2 + 1, none⟩ (.slice A8 n8 c8)) by
  refine ⟨k + 1, by have := HEt.out; omega, by simp, ((HMV.out.trans (Mv.of_ext hxq6)).trans (Mv.set _)).trans (Mv.set _), ?_⟩
  have hm : ∀ {A : Option Addr} {n : Nat} {xs : List (List Wd)}, kWs.row w6 (fun j => (wq.alloc (.cells #[.slice A5 n5 c5, .slice A6 n6 c6] 53)).heap.size ≤ j) A n xs → kWs.row w6 (fun j => gt < j ∧ (Value.slice (some ⟨gt, 0, none⟩) x4.length x4.length).ownBlock ≠ some j) A n xs := fun h => Lay.row_mono h fun j hj _ => by
   rw [World.size_alloc] at hj
   exact ⟨by have := HMV.out.size; omega, by simp [Value.ownBlock]; omega⟩
  have h9 := Lay.own_put2 kTx_sz ho6 (i := k) (by rw [hlen6]; omega) (x := tx) (kTx_rep.2 ⟨A7, n7, c7, A8, n8, c8, rfl, h7, h8, hm hr7, hm hr8⟩)
  rwa [take_setL _ _ _ _ _ (by have := HEt.out; omega) HTI.out] at h9)
 clear hcurB hcs ho6 hr7 hr8 hx6 hxq6 hlen6
 go_wp2_with fail
 go_roundw
 case rel => exact HREL.out
 case measure => simp only [toM]; omega
theorem cloned_any (P : Nat → Prop) (w : World) (b : Bk) (A : Option Addr) (n c : Nat) (h : kSe.row w P A n b.secs) (hs : BkS b.secs) :
  Calls Tryz.prog 76 #[.agg #[.int .i64 b.ms, .int .i64 b.ht, .slice A n c]] w (fun e w' => ∃ g, e = .returned (.agg #[.int .i64 b.ms, .int .i64 b.ht, .slice (some ⟨g, 0, none⟩) n n]) ∧ BkO w' w.heap.size b.secs g ∧ Ext w w') := by
 refine (cloned_own P w b A n c h hs).mono ?_
 rintro e w' ⟨g, rfl, h1, h2⟩
 exact ⟨g, rfl, h1.bko, h2⟩
end
section
open Go Go.RowKit
end
section
open Go Go.RowKit
set_option maxHeartbeats 2000000 in
set_option maxRecDepth 100000 in
theorem clo131 (X : World) (b : Nat) (e : Int) (x : Se) (u v : Value) (_hu : u.oneCell' = true) (_hv : v.oneCell' = true) (h : X.cell? ⟨b, 0, none⟩ = some (.int .i64 e)) :
  Calls Tryz.prog 131 #[.agg #[.int .i64 x.ent, .bool x.fz, u, v], .pointer (some ⟨b, 0, none⟩)] X (fun z X' => z = .returned (.bool (x.ent == e)) ∧ Ext X X') := by
 obtain ⟨q, hq⟩ : ∃ q, (x.ent == e) = q := ⟨_, rfl⟩
 have hbl : b < X.heap.size := World.block_lt_of_cell? X _ h
 have hne : ¬ b = X.heap.size := by omega
 rw [hq]
 go_enter Tryz.func131, Tryz.ntmps131
 go_wp2_with fail
 go_ret
 exact ⟨by simp, (Ext.refl X).alloc _⟩
set_option maxHeartbeats 4000000 in
set_option maxRecDepth 100000 in
theorem idx130_131 (p : Se → Bool) (P : Nat → Prop) (W : World) (A : Option Addr) (n c b : Nat) (xs : List Se) (h : kSe.row W P A n xs) (hn : n ≤ 1000000)
  (hp : ∀ X (x : Se) u v, Ext W X → u.oneCell' = true → v.oneCell' = true → Calls Tryz.prog 131 #[.agg #[.int .i64 x.ent, .bool x.fz, u, v], .pointer (some ⟨b, 0, none⟩)] X (fun e X' => e = .returned (.bool (p x)) ∧ Ext X X')) :
  Calls Tryz.prog 130 #[.slice A n c, .func (.func 131) #[] #[.pointer (some ⟨b, 0, none⟩)]] W (fun e W' => e = .returned (.int .i64 (idxI p xs)) ∧ Ext W W') := by
 have hl := Lay.row_len h
 have HR := Hd h
 have HP := Hd hp
 have HL := Hd hl
 clear h hp hl
 go_enter Tryz.func130, Tryz.ntmps130
 go_wp2_with fail
 go_loopw [5, 8] (fun _ s8 w' => IdRel p W xs s8 w') (fun _ s8 _ => toM n s8)
 case atStart => exact ⟨0, by omega, rfl, fun y hy => by simp at hy, Ext.refl _⟩
 obtain ⟨i, hi, rfl, ht, hx⟩ := hrel
 rw [← HL.out] at hi
 have HT := Hd ht
 have HX := Hd hx
 clear ht hx
 by_cases hlt : i < n
 case neg =>
  obtain rfl : i = n := by omega
  have hni : ¬ ((i : Int) < (i : Int)) := by omega
  have HF := Hd (show idxI p xs = -1 from idxI_neg p xs (by have := HT.out; rw [HL.out, List.take_length] at this; exact this))
  go_wp2_with fail
  go_ret
  exact ⟨ret_i HF.out.symm, HX.out⟩
 have hI : (i : Int) < (n : Int) := by omega
 obtain ⟨x, hxi⟩ : ∃ x, xs[i]? = some x := ⟨_, List.getElem?_eq_getElem (by have := HL.out; omega)⟩
 obtain ⟨bb, off, cs, rfl, hb, _, hrep, hc⟩ := Lay.row_at (Lay.row_ext HR.out HX.out) hxi
 obtain ⟨A1, n1, c1, A2, n2, c2, rfl, _⟩ := kSe_rep.1 hrep
 have e0 := hc 0 _ rfl
 have e1 := hc 1 _ rfl
 have e2 := hc 2 _ rfl
 have e3 := hc 3 _ rfl
 rw [kSe_sz] at e0 e1 e2 e3
 rw [Nat.add_zero] at e0
 have HC := Hd (HP.out _ x (.slice A1 n1 c1) (.slice A2 n2 c2) HX.out rfl rfl)
 have HXI := Hd hxi
 clear hc hrep hxi
 obtain ⟨q, hq⟩ : ∃ q, q = p x := ⟨_, rfl⟩
 rw [← hq] at HC
 have HQ := Hd hq
 clear hq
 cases q with
 | true =>
  have HF := Hd (show idxI p xs = i from idxI_at p xs i x HT.out HXI.out HQ.out.symm)
  go_wp2_with (first | (go_at_call 131; refine (HC.out).mono ?_; rintro e w1 ⟨rfl, hx1⟩))
  go_ret
  exact ⟨ret_i HF.out.symm, HX.out.trans hx1⟩
 | false =>
  go_wp2_with (first | (go_at_call 131; refine (HC.out).mono ?_; rintro e w1 ⟨rfl, hx1⟩))
  go_roundw
  case rel => exact ⟨i + 1, by have := HL.out; omega, by simp, take_none HT.out HXI.out HQ.out.symm, HX.out.trans hx1⟩
  case measure => simp only [toM]; omega
set_option maxHeartbeats 4000000 in
set_option maxRecDepth 100000 in
theorem find_any (P : Nat → Prop) (w : World) (m h e : Int) (l : List Se) (A : Option Addr) (n c : Nat) (hr : kSe.row w P A n l) (hn : n ≤ 1000000) :
  Calls Tryz.prog 81 #[.agg #[.int .i64 m, .int .i64 h, .slice A n c], .int .i64 e] w (fun z w' => z = .returned (.int .i64 (idxI (fun x => x.ent == e) l)) ∧ Ext w w') := by
 obtain ⟨b1, hb1⟩ : ∃ b1, w.heap.size = b1 := ⟨_, rfl⟩
 obtain ⟨r, hr2⟩ : ∃ r, idxI (fun x => x.ent == e) l = r := ⟨_, rfl⟩
 rw [hr2]
 go_enter Tryz.func81, Tryz.ntmps81
 go_upto_region 1 with (fail)
 obtain ⟨W0, hW0⟩ : ∃ W0, (w.alloc (.cells #[.int .i64 m, .int .i64 h, .slice A n c] 27)).alloc (.cells #[.int .i64 e] 3) = W0 := ⟨_, rfl⟩
 rw [hW0]
 have hx0 : Ext w W0 := by rw [← hW0]; exact ((Ext.refl w).alloc _).alloc _
 have hB1 : W0.heap[b1]? = some (.cells #[.int .i64 m, .int .i64 h, .slice A n c] 27 (0, 0)) := by
  rw [← hW0, ← hb1]
  exact (Below.heap_alloc _ _ _ (by simp)).trans (heap_alloc_new w _)
 have hB2 : W0.heap[b1 + 1]? = some (.cells #[.int .i64 e] 3 (0, 0)) := by
  rw [← hW0, ← hb1]
  have := heap_alloc_new (w.alloc (.cells #[.int .i64 m, .int .i64 h, .slice A n c] 27)) (.cells #[.int .i64 e] 3)
  rwa [World.size_alloc] at this
 have HI := Hd (idx130_131 (fun x => x.ent == e) P W0 A n c (b1 + 1) l (Lay.row_ext hr hx0) hn fun X x u v hX hu hv => clo131 X (b1 + 1) e x u v hu hv (cof ((hX.block _ (lt_of_block hB2)).trans hB2) rfl))
 have HX0 := Hd hx0
 have a2 := cof hB1 (i := 2) rfl
 rw [hr2] at HI
 clear hB1 hB2 hW0 hx0 hr hr2
 go_wp2_with (first | (go_at_call 130; refine (HI.out).mono ?_; rintro z w1 ⟨rfl, hx1⟩))
 go_ret
 exact ⟨rfl, HX0.out.trans hx1⟩
end
section
def lrefs (l : List Ln) : List Int := l.flatMap (·.nts)
theorem lrefs_append (a b : List Ln) : lrefs (a ++ b) = lrefs a ++ lrefs b := by simp [lrefs]
theorem ntsOfB (p : List Wd) : (p.filterMap fun w => if w.nt ≠ 0 then some (w.nt - 1) else none) = (refs p).map (· - 1) := by
 induction p with
 | nil => rfl
 | cons w r ih =>
  by_cases h : w.nt ≠ 0
  ·rw [List.filterMap_cons_some (by rw [if_pos h]), ih]
   unfold refs
   rw [List.filter_cons_of_pos (by simpa using h)]; rfl
  ·rw [List.filterMap_cons_none (by rw [if_neg h]), ih]
   unfold refs
   rw [List.filter_cons_of_neg (by simpa using h)]
theorem linesGo_nts (m : Int) : ∀ (ls : List Nat) (ws : List Wd) (first : Int), ls.sum = ws.length → lrefs (linesGo m ws ls first) = (refs ws).map (· - 1) := by
 intro ls
 induction ls with
 | nil =>
  intro ws first h
  obtain rfl : ws = [] := List.eq_nil_of_length_eq_zero (by simpa using h.symm)
  simp [linesGo, lrefs, refs]
 | cons l ls ih =>
  intro ws first h
  rw [List.sum_cons] at h
  simp only [linesGo]
  show _ ++ lrefs _ = _
  rw [ih _ _ (by simp; omega), ntsOfB, ← List.map_append, ← refs_append, List.take_append_drop]
theorem linesGo_lenB (m : Int) : ∀ (ls : List Nat) (ws : List Wd) (first : Int), (linesGo m ws ls first).length = ls.length := by
 intro ls
 induction ls with
 | nil => intro ws first; simp [linesGo]
 | cons l ls ih => intro ws first; simp [linesGo, ih]
theorem sum_ge {l : List Nat} (h : ∀ x ∈ l, 1 ≤ x) : l.length ≤ l.sum := by
 induction l with
 | nil => simp
 | cons a l ih => have := ih fun x hx => h x (by simp [hx]); have := h a (by simp); simp; omega
theorem setP_nts {m : Int} (hm : 500 ≤ m) (ws : List Wd) (first : Int) : lrefs (setP ws first m) = (refs ws).map (· - 1) :=
 linesGo_nts m _ _ _ (by rw [(lens_ok hm (wds_of ws)).2]; simp)
theorem setP_len {m : Int} (hm : 500 ≤ m) (ws : List Wd) (first : Int) : (setP ws first m).length ≤ ws.length ∧ (ws ≠ [] → 1 ≤ (setP ws first m).length) := by
 have h := lens_ok hm (wds_of ws)
 have h1 := sum_ge h.1
 rw [h.2, List.length_map] at h1
 unfold setP
 rw [linesGo_lenB]
 refine ⟨h1, fun h0 => ?_⟩
 have h2 := h.2
 cases hl : lens (ws.map fun w => wid w.s) m with
 | nil =>
  rw [hl] at h2
  exact absurd (List.eq_nil_of_length_eq_zero (by simpa using h2.symm)) h0
 | cons a b => simp
theorem setsP_lenB (m : Int) : ∀ (ps : List (List Wd)) (first : Int), (setsP m ps first).length = ps.length := by
 intro ps
 induction ps with
 | nil => intro _; rfl
 | cons p ps ih => intro first; simp [setsP, ih]
theorem setsP_nts {m : Int} (hm : 500 ≤ m) : ∀ (ps : List (List Wd)) (first : Int), lrefs (setsP m ps first).flatten = (refs ps.flatten).map (· - 1) := by
 intro ps
 induction ps with
 | nil => intro _; rfl
 | cons p ps ih =>
  intro first
  simp only [setsP, List.flatten_cons, lrefs_append, refs_append, List.map_append]
  rw [setP_nts hm, ih]
theorem setsP_mem {m : Int} : ∀ (ps : List (List Wd)) (first : Int), ∀ l ∈ setsP m ps first, ∃ p ∈ ps, ∃ f, l = setP p f m := by
 intro ps
 induction ps with
 | nil => intro _ l hl; simp [setsP] at hl
 | cons p ps ih =>
  intro first l hl
  simp only [setsP, List.mem_cons] at hl
  rcases hl with rfl | hl
  ·exact ⟨p, by simp, first, rfl⟩
  ·obtain ⟨q, hq, f, e⟩ := ih _ l hl
   exact ⟨q, by simp [hq], f, e⟩
theorem flat_len {m : Int} (hm : 500 ≤ m) (B : Nat) : ∀ (ps : List (List Wd)) (first : Int), (∀ p ∈ ps, p.length ≤ B) → (setsP m ps first).flatten.length ≤ B * ps.length := by
 intro ps
 induction ps with
 | nil => intro _ _; simp [setsP]
 | cons p ps ih =>
  intro first h
  have h1 := ih (first + p.length) fun q hq => h q (by simp [hq])
  have h2 := (setP_len hm p first).1
  have h3 := h p (by simp)
  simp only [setsP, List.flatten_cons, List.length_append, List.length_cons, Nat.mul_add, Nat.mul_one]
  omega
theorem ordN_ok (nn : Int) : ∀ (l : List Int) (k : Nat), l = (List.range l.length).map (fun (i : Nat) => (k : Int) + i) → (k : Int) + l.length ≤ nn → ordN nn l k = some ((k + l.length : Nat) : Int) := by
 intro l
 induction l with
 | nil => intro k _ _; simp [ordN]
 | cons n r ih =>
  intro k hl hk
  simp only [List.length_cons, List.range_succ_eq_map, List.map_cons, List.map_map, List.cons.injEq] at hl hk
  have h1 : n = k := by simpa using hl.1
  simp only [ordN]
  rw [if_neg (by omega)]
  have := ih (k + 1) (hl.2.trans (List.map_congr_left fun i _ => by simp only [Function.comp, Nat.succ_eq_add_one]; omega)) (by omega)
  rw [show (k : Int) + 1 = ((k + 1 : Nat) : Int) by omega, this]
  simp only [List.length_cons]
  congr 1; omega
theorem range_split0 (a b k : Nat) : (List.range (a + b)).map (fun (i : Nat) => (k : Int) + i) = (List.range a).map (fun (i : Nat) => (k : Int) + i) ++ (List.range b).map (fun (i : Nat) => ((k + a : Nat) : Int) + i) := by
 rw [List.range_add, List.map_append, List.map_map]
 congr 1
 refine List.map_congr_left fun i _ => ?_
 simp only [Function.comp]; omega
theorem ordL_ok (nn : Int) : ∀ (l : List Ln) (k : Nat), lrefs l = (List.range (lrefs l).length).map (fun (i : Nat) => (k : Int) + i) → (k : Int) + (lrefs l).length ≤ nn → ordL nn l k = some ((k + (lrefs l).length : Nat) : Int) := by
 intro l
 induction l with
 | nil => intro k _ _; simp [ordL, lrefs]
 | cons x r ih =>
  intro k hl hk
  have e : lrefs (x :: r) = x.nts ++ lrefs r := rfl
  rw [e] at hl hk ⊢
  rw [List.length_append] at hl hk ⊢
  rw [range_split0] at hl
  have hl := List.append_inj hl (by simp)
  simp only [ordL]
  rw [ordN_ok nn x.nts k hl.1 (by omega)]
  simp only [Option.bind_some]
  rw [ih _ hl.2 (by omega)]
  congr 1; omega
theorem setF_len (h : Int) (notes : List (List Ln)) : ∀ (f : Nat) (body q : List Ln), (setF h notes f body q).length ≤ f := by
 intro f
 induction f with
 | zero => intro _ _; simp [setF]
 | succ f ih => intro body q; rw [setF]; split
                · simp
                · simp only [List.length_cons]; have := ih (body.drop (fillP h notes body q 0 (min (q.length : Int) (h - 1))).1) ((fillP h notes body q 0 (min (q.length : Int) (h - 1))).2.1.drop (fillP h notes body q 0 (min (q.length : Int) (h - 1))).2.2.toNat); omega
theorem setF_room {h : Int} (hh : 4 ≤ h) (notes : List (List Ln)) : ∀ (f : Nat) (body q : List Ln), ∀ p ∈ setF h notes f body q, (p.1.length : Int) + p.2.length ≤ h := by
 intro f
 induction f with
 | zero => intro body q p hp; simp [setF] at hp
 | succ f ih =>
  intro body q p hp
  rw [setF] at hp
  split at hp
  ·simp at hp
  ·simp only [List.mem_cons] at hp
   rcases hp with rfl | hp
   ·obtain ⟨g1, _, g3, _, _⟩ := fillP_ok h notes body q 0 _ (fill_start hh q)
    have h1 := g1.room
    have h2 := g1.pos
    unfold roomP at h1
    simp only [List.length_take]
    omega
   ·exact ih _ _ p hp
theorem leftP_bd (notes : List (List Ln)) (body : List Ln) (B : Nat) (hB : ∀ n : Nat, (notes[n]?.getD []).length ≤ B) : leftP notes body [] ≤ body.length + B * (lrefs body).length := by
 unfold leftP
 induction body with
 | nil => simp [lrefs]
 | cons x r ih =>
  have h1 : (notesOf notes x).length ≤ B * x.nts.length := by
   unfold notesOf
   induction x.nts with
   | nil => simp
   | cons n l ihl => rw [List.flatMap_cons, List.length_append, List.length_cons, Nat.mul_add]; have := hB n.toNat; omega
  have e : lrefs (x :: r) = x.nts ++ lrefs r := rfl
  rw [e, List.length_append, Nat.mul_add]
  simp only [List.map_cons, List.sum_cons, List.length_cons, List.length_nil, Nat.zero_add] at ih ⊢
  omega
theorem textP_ok {t : Tx} (ht : OkT t) {m h : Int} (hm : 500 ≤ m) (hm2 : m ≤ 2000) (hh : 4 ≤ h) (hh2 : h ≤ 100) :
  (textP t m h).1 = 0 ∧ (textP t m h).2 ≠ [] ∧ (textP t m h).2.length ≤ 200 ∧ ∀ p ∈ (textP t m h).2, (p.1.length : Int) + p.2.length ≤ h := by
 have hl : linesT t m = (0, (setsP m t.paras 0).flatten, setsP m t.notes (t.paras.map List.length).sum) := by
  unfold linesT
  rw [if_neg (by rw [chkT_ok ht]; simp), if_neg (by omega)]
 obtain ⟨body, hb⟩ : ∃ b, b = (setsP m t.paras 0).flatten := ⟨_, rfl⟩
 obtain ⟨notes, hn⟩ : ∃ b, b = setsP m t.notes (t.paras.map List.length).sum := ⟨_, rfl⟩
 rw [← hb, ← hn] at hl
 have hnl : notes.length = t.notes.length := by rw [hn]; exact setsP_lenB _ _ _
 have hr : lrefs body = (List.range t.notes.length).map fun (i : Nat) => (i : Int) := by
  rw [hb, setsP_nts hm, ht.rf, upto, List.map_map]
  exact List.map_congr_left fun i _ => by simp only [Function.comp]; omega
 have hrl : (lrefs body).length = t.notes.length := by rw [hr]; simp
 have hnm : ∀ l ∈ notes, 1 ≤ l.length ∧ l.length ≤ 12 := fun l hl => by
  rw [hn] at hl
  obtain ⟨p, hp, f, rfl⟩ := setsP_mem _ _ l hl
  have h1 := setP_len hm p f
  have h2 := ht.len p hp
  exact ⟨h1.2 (fun e => by rw [e] at h2; simp at h2), by omega⟩
 have hc : chkPg body notes h = 0 := by
  unfold chkPg
  have h1 : notes.any (fun l => decide (l.length = 0)) = false := by
   rw [List.any_eq_false]; intro l hl hd; have := hnm l hl; simp only [decide_eq_true_eq] at hd; omega
  rw [if_neg (by omega), if_neg (by rw [h1]; simp)]
  have := ordL_ok notes.length body 0 (by rw [hrl, hr]; exact List.map_congr_left fun i _ => by simp) (by rw [hrl]; omega)
  rw [show ((0 : Nat) : Int) = 0 by rfl] at this
  rw [this, hrl]
  simp only
  rw [if_neg (by omega)]
 have hbl : body.length ≤ 160 := by
  have := flat_len hm 40 t.paras 0 fun p hp => (ht.par.len p hp).2
  have := ht.np
  rw [hb]; omega
 have hb0 : body ≠ [] := by
  rw [hb]
  have := ht.np
  cases hp : t.paras with
  | nil => rw [hp] at this; simp at this
  | cons p ps =>
   have h2 := ht.par.len p (by rw [hp]; simp)
   have h3 := (setP_len hm p 0).2 (fun e => by rw [e] at h2; simp at h2)
   simp only [setsP, List.flatten_cons]
   intro e
   rw [List.append_eq_nil_iff] at e
   rw [e.1] at h3
   simp at h3
 have hleft : leftP notes body [] ≤ 200 := by
  have := leftP_bd notes body 12 fun n => by
   cases hx : notes[n]? with
   | none => simp
   | some l => simpa using (hnm l (List.mem_of_getElem? hx)).2
  rw [hrl] at this
  have := ht.nn
  omega
 have e : textP t m h = (0, setF h notes (leftP notes body []) body []) := by
  unfold textP
  rw [if_neg (by rw [hl]; simp), hl]
  simp only [setPg]
  rw [if_neg (by rw [hc]; simp)]
 rw [e]
 refine ⟨rfl, ?_, ?_, fun p hp => setF_room hh notes _ _ _ p hp⟩
 ·simp only
  obtain ⟨h1, _⟩ := setF_step hh notes body [] (fun hx => hb0 hx.1) _ rfl
  rw [h1]
  simp
 ·have := setF_len h notes (leftP notes body []) body []
  simp only; omega
end
end Go.Proofs.YtdbnddmncbjobaaGreatDoor