/- book.Correct at a section that is there and frozen: walked (printed by gencor.py). -/
import Derived.Test.YtdbnddmncbjobaaGreatDoorMk
namespace Go.Proofs.YtdbnddmncbjobaaGreatDoor
open Go Go.RowKit

/-- The error of Correct at a good text and a section that is there. -/
def corE (b : Bk) (i : Nat) (x : Se) (v : Int) (t : Tx) : Int :=
  if (decide (0 ≤ v) && decide (v ≤ 2147483647)) = false then 5
  else if decide (v ∈ x.vers) = true then 4
  else if 100 < x.vers.length + 1 ∨ 16384 < (pagesB (corP b i x v t)).length then 2 else 0
/-- What holds behind the corrected book's making. -/
structure CoC (w w2 W : World) (zb g n i n1 : Nat) (ms ht : Int) (ls : List Se) : Prop where
  k : ∀ j, j < w2.heap.size → W.heap[j]? = w2.heap[j]?
  b : W.heap[zb]? = some (.cells #[.int .i64 ms, .int .i64 ht, .slice (some ⟨g, 0, none⟩) n n] 27 (0, 0))
  v : ∃ A c, W.cell? ⟨g, i * 4 + 2, none⟩ = some (.slice A (n1 + 1) c)
  r : kSe.row W (fun j => w2.heap.size ≤ j) (some ⟨g, 0, none⟩) n ls
  x : Ext w W
set_option maxHeartbeats 4000000 in
set_option maxRecDepth 100000 in
theorem correct_any (P Q : Nat → Prop) (w : World) (b : Bk) (e v : Int) (t : Tx) (i : Nat) (x : Se) (A A3 A4 : Option Addr) (N c n3 c3 n4 c4 : Nat) (hb : BkI b) (hh : 4 ≤ b.ht) (hb2 : BkI (corP b i x v t)) (hT : OkT t) (hix : idxI (fun x => x.ent == e) b.secs = (i : Int)) (hxi : b.secs[i]? = some x) (hfz : x.fz = true) (hnv : x.vers.length ≤ 1000) (hnt : x.texts.length ≤ 1000)
    (hr : kSe.row w P A N b.secs) (h3 : kWs.row w Q A3 n3 t.paras) (h4 : kWs.row w Q A4 n4 t.notes) (hL : EnvW w) :
    Calls Tryz.prog 38 #[.agg #[.int .i64 b.ms, .int .i64 b.ht, .slice A N c], .int .i64 e, .int .i64 v, .agg #[.slice A3 n3 c3, .slice A4 n4 c4]] w (OpPost w (corE b i x v t) b.ms b.ht (corP b i x v t).secs) := by
  have hN := Lay.row_len hr
  have hN6 : N ≤ 1000000 := by have := hb.s.n; omega
  have hiN : i < N := by have := (List.getElem?_eq_some_iff.1 hxi).1; omega
  obtain ⟨r2, hr2⟩ : ∃ r2, (decide (0 ≤ v) && decide (v ≤ 2147483647)) = r2 := ⟨_, rfl⟩
  obtain ⟨r3, hr3⟩ : ∃ r3, decide (v ∈ x.vers) = r3 := ⟨_, rfl⟩
  have HFD := Lib.hid (fun X (hX : Ext w X) => (show Calls Tryz.prog 81 #[.agg #[.int .i64 b.ms, .int .i64 b.ht, .slice A N c], .int .i64 e] X (fun z w' => z = .returned (.int .i64 (i : Int)) ∧ Ext X w') from by rw [← hix]; exact find_any P X b.ms b.ht e b.secs A N c (Lay.row_ext hr hX) hN6))
  have HW2 := Lib.hid (fun X => (show Calls Tryz.prog 82 #[.int .i64 v, .int .i64 0, .int .i64 2147483647] X (fun z w' => z = .returned (.bool r2) ∧ X = w') from by rw [← hr2]; exact within_any X v 0 2147483647))
  have HWR := Lib.hid (fun X (hX : Ext w X) => wrong_ok Q X b.ms b.ht A N c t A3 A4 n3 n4 c3 c4 (Lay.row_ext h3 hX) (Lay.row_ext h4 hX) hT hb.m0 hb.m1 hh hb.h.2 (hL.ext hX))
  have HCL := Lib.hid (fun X (hX : Ext w X) => cloned_own P X b A N c (Lay.row_ext hr hX) hb.s)
  have HTX := Lib.hid (fun X (hX : Ext w X) => text_any Q X t A3 A4 n3 n4 c3 c4 (Lay.row_ext h3 hX) (Lay.row_ext h4 hX) (by have := Lay.row_len h3; have := hT.np; omega) (by have := Lay.row_len h4; have := hT.nn; omega) hT.small.len)
  have HFT := Lib.hid (fun X (hX : Ext w X) (R : Nat → Prop) (A9 : Option Addr) (c9 : Nat) h9 => bfits_any R X (corP b i x v t) A9 N c9 hb2 h9 (hL.ext hX))
  obtain ⟨bA, oA, cA, rfl, hbA, _, hrepA, hclA⟩ := Lay.row_at hr hxi
  obtain ⟨Av, nv, cv, _, _, _, rfl, _, _, hrv, _⟩ := kSe_rep.1 hrepA
  have y2 := hclA 2 _ rfl
  rw [kSe_sz] at y2
  have HCO := Lib.hid (fun X (hX : Ext w X) => (show Calls Tryz.prog 86 #[.slice Av nv cv, .int .i64 v] X (fun z w' => z = .returned (.bool r3) ∧ X = w') from by rw [← hr3]; exact contains_int P X Av nv cv x.vers v (Lay.row_ext hrv hX) (by have := Lay.row_len hrv; omega)))
  have HY2 := Lib.hid (fun X (hX : Ext w X) => (show X.cell? ⟨bA, oA + i * 4 + 2, none⟩ = some (.slice Av nv cv) from (hX.cells.1 bA _ hbA).trans y2))
  obtain ⟨np, hnp⟩ : ∃ np, (pagesB (corP b i x v t)).length = np := ⟨_, rfl⟩
  have HER := Lib.hid (show corE b i x v t = if r2 = false then 5 else if r3 = true then 4 else if 100 < x.vers.length + 1 ∨ 16384 < np then 2 else 0 by unfold corE; rw [hr2, hr3, hnp])
  rw [hnp] at HFT
  have HN := Lib.hid hN
  have HXI := Lib.hid hxi
  have HFZ := Lib.hid (And.intro hfz (And.intro hnv hnt))
  have HTN := Lib.hid hb2.s
  clear hb hb2 hh hT hr h3 h4 hL hr2 hr3 hN hnp hix hxi hfz hnv hnt hclA hrepA hrv y2 hbA
  have hni : ¬ (i : Int) < 0 := by omega
  have hI : (i : Int) < (N : Int) := by omega
  go_enter Tryz.func38, Tryz.ntmps38
  go_upto_region 1 with (fail)
  obtain ⟨W0, hW0⟩ : ∃ W0, ((w.alloc (.cells #[.int .i64 b.ms, .int .i64 b.ht, .slice (some ⟨bA, oA, none⟩) N c] 27)).alloc (.cells #[.slice A3 n3 c3, .slice A4 n4 c4] 53)).alloc (.cells #[.int .i64 0, .int .i64 0, .slice none 0 0] 27) = W0 := ⟨_, rfl⟩
  obtain ⟨z, hz⟩ : ∃ z, w.heap.size = z := ⟨_, rfl⟩
  have hx0 : Ext w W0 := by rw [← hW0]; exact (((Ext.refl w).alloc _).alloc _).alloc _
  have hB0 : W0.heap[z]? = some (.cells #[.int .i64 b.ms, .int .i64 b.ht, .slice (some ⟨bA, oA, none⟩) N c] 27 (0, 0)) := by rw [← hW0, ← hz, heap_alloc_old _ _ _ (by simp; omega), heap_alloc_old _ _ _ (by simp)]; exact heap_alloc_at _ _ _ _ rfl
  have hB1 : W0.heap[z + 1]? = some (.cells #[.slice A3 n3 c3, .slice A4 n4 c4] 53 (0, 0)) := by rw [← hW0, ← hz, heap_alloc_old _ _ _ (by simp)]; exact heap_alloc_at _ _ _ _ (by simp)
  have hB2 : W0.heap[z + 1 + 1]? = some (.cells #[.int .i64 0, .int .i64 0, .slice none 0 0] 27 (0, 0)) := by rw [← hW0, ← hz]; exact heap_alloc_at _ _ _ _ (by simp)
  obtain ⟨z2, hz2⟩ : ∃ z2, z + 1 + 1 = z2 := ⟨_, rfl⟩
  obtain ⟨z1, hz1⟩ : ∃ z1, z + 1 = z1 := ⟨_, rfl⟩
  rw [hz2] at hB2
  rw [hz1] at hB1
  rw [hW0, hz, hz2, hz1]
  have HZ := Lib.hid (show w.heap.size = z ∧ z1 = z + 1 ∧ z2 = z + 2 by omega)
  have HX0 := Lib.hid hx0
  have HC := Lib.hid (fun X (hX : Ext W0 X) => (show X.heap[z]? = some (.cells #[.int .i64 b.ms, .int .i64 b.ht, .slice (some ⟨bA, oA, none⟩) N c] 27 (0, 0)) ∧ X.heap[z1]? = some (.cells #[.slice A3 n3 c3, .slice A4 n4 c4] 53 (0, 0)) ∧ X.heap[z2]? = some (.cells #[.int .i64 0, .int .i64 0, .slice none 0 0] 27 (0, 0)) from
    ⟨(hX.block _ (lt_of_block hB0)).trans hB0, (hX.block _ (lt_of_block hB1)).trans hB1, (hX.block _ (lt_of_block hB2)).trans hB2⟩))
  have a0 := cell_of hB0 (i := 0) (u := .int .i64 b.ms) rfl
  have a1 := cell_of hB0 (i := 1) (u := .int .i64 b.ht) rfl
  have a2 := cell_of hB0 (i := 2) (u := .slice (some ⟨bA, oA, none⟩) N c) rfl
  clear hW0 hz hx0 hB0 hB1 hB2 hz1 hz2
  go_upto_if 18 with (first | (go_at_call 81; refine (HFD.out _ HX0.out).mono ?_; rintro z9 w1 ⟨rfl, hx1⟩))
  have HX1 := Lib.hid hx1
  obtain ⟨k0, k1, k2, j0, j1, j2⟩ := BkR.of (HC.out w1 hx1).2.2
  clear a0 a1 a2 HFD hx1
  have HBAD := Lib.hid (fun X (hX : Ext W0 X) => (show Ext w (((X.setCell ⟨z2, 0, none⟩ (.int .i64 0)).setCell ⟨z2, 1, none⟩ (.int .i64 0)).setCell ⟨z2, 2, none⟩ (.slice none 0 0)) from ext3 (HX0.out.trans hX) (by have := HZ.out; omega) _ _ _))
  cases r2 with
  | false =>
    have HE := Lib.hid (show corE b i x v t = 5 by rw [HER.out, if_pos rfl])
    go_wp2_with (first | (go_at_call 82; refine (HW2.out _).mono ?_; rintro z9 w2 ⟨rfl, rfl⟩))
    have hs := st3 (HC.out _ HX1.out).2.2 (.int .i64 0) (.int .i64 0) (.slice none 0 0)
    have q0 := cell_of hs (i := 0) rfl
    have q1 := cell_of hs (i := 1) rfl
    have q2 := cell_of hs (i := 2) rfl
    refine bodyPost_ret (v := .tuple #[.agg #[.int .i64 0, .int .i64 0, .slice none 0 0], .int .i64 5]) (by simp [results, Tryz.results38, go_sem, q0, q1, q2]) rfl ?_
    exact ⟨HBAD.out _ HX1.out, .inl ⟨by rw [HE.out]; decide, by rw [HE.out]⟩⟩
  | true =>
  go_upto_if 22 with (first | (go_at_call 82; refine (HW2.out _).mono ?_; rintro z9 w2 ⟨rfl, rfl⟩))
  have hc0 := (HC.out w1 HX1.out).1
  have a0 := cell_of hc0 (i := 0) (u := .int .i64 b.ms) rfl
  have a1 := cell_of hc0 (i := 1) (u := .int .i64 b.ht) rfl
  have a2 := cell_of hc0 (i := 2) (u := .slice (some ⟨bA, oA, none⟩) N c) rfl
  have y2 := HY2.out _ (HX0.out.trans HX1.out)
  clear hc0 HW2
  cases r3 with
  | true =>
    have HE := Lib.hid (show corE b i x v t = 4 by rw [HER.out, if_neg (by simp), if_pos rfl])
    go_wp2_with (first | (go_at_call 86; refine (HCO.out _ (HX0.out.trans HX1.out)).mono ?_; rintro z9 w2 ⟨rfl, rfl⟩))
    have hs := st3 (HC.out _ HX1.out).2.2 (.int .i64 0) (.int .i64 0) (.slice none 0 0)
    have q0 := cell_of hs (i := 0) rfl
    have q1 := cell_of hs (i := 1) rfl
    have q2 := cell_of hs (i := 2) rfl
    refine bodyPost_ret (v := .tuple #[.agg #[.int .i64 0, .int .i64 0, .slice none 0 0], .int .i64 4]) (by simp [results, Tryz.results38, go_sem, q0, q1, q2]) rfl ?_
    exact ⟨HBAD.out _ HX1.out, .inl ⟨by rw [HE.out]; decide, by rw [HE.out]⟩⟩
  | false =>
  have HE := Lib.hid (show corE b i x v t = if 100 < x.vers.length + 1 ∨ 16384 < np then 2 else 0 by rw [HER.out, if_neg (by simp), if_neg (by simp)])
  clear HER k0 k1 k2 j0 j1 j2
  go_upto_if 31 with (first | (go_at_call 86; refine (HCO.out _ (HX0.out.trans HX1.out)).mono ?_; rintro z9 w2 ⟨rfl, rfl⟩))
  have hc1 := (HC.out w1 HX1.out).2.1
  have b0 := cell_of hc1 (i := 0) (u := .slice A3 n3 c3) rfl
  have b1 := cell_of hc1 (i := 1) (u := .slice A4 n4 c4) rfl
  clear hc1 y2 HCO
  go_upto_if 37 with (first | (go_at_call 83; refine (HWR.out _ (HX0.out.trans HX1.out)).mono ?_; rintro z9 w2 ⟨rfl, hx2⟩))
  have HX2 := Lib.hid (HX1.out.trans hx2)
  have hc0 := (HC.out w2 HX2.out).1
  have a0 := cell_of hc0 (i := 0) (u := .int .i64 b.ms) rfl
  have a1 := cell_of hc0 (i := 1) (u := .int .i64 b.ht) rfl
  have a2 := cell_of hc0 (i := 2) (u := .slice (some ⟨bA, oA, none⟩) N c) rfl
  clear hc0 hx2 HWR HX1 b0 b1
  go_upto_region 12 with (first | (go_at_call 76; refine (HCL.out _ (HX0.out.trans HX2.out)).mono ?_; rintro z9 w3 ⟨g, rfl, hbk, hx3⟩))
  clear a0 a1 a2 HCL HY2
  obtain ⟨w5, hw5⟩ : ∃ w5, w3.alloc (.cells #[.int .i64 b.ms, .int .i64 b.ht, .slice (some ⟨g, 0, none⟩) N N] 27) = w5 := ⟨_, rfl⟩
  obtain ⟨zb, hzb⟩ : ∃ z, w3.heap.size = z := ⟨_, rfl⟩
  have hx5 : Ext w3 w5 := by rw [← hw5]; exact (Ext.refl w3).alloc _
  have hB5 : w5.heap[zb]? = some (.cells #[.int .i64 b.ms, .int .i64 b.ht, .slice (some ⟨g, 0, none⟩) N N] 27 (0, 0)) := by rw [← hw5, ← hzb]; exact heap_alloc_at _ _ _ _ rfl
  rw [hw5, hzb]
  obtain ⟨ds, lof, hbg, hg3, hdl, hlo3, hall⟩ := hbk
  have hg3l := lt_of_block hg3
  have hl3 : lof b.secs.length ≤ w3.heap.size := hlo3.2.2
  have hx25 : Ext w2 w5 := hx3.trans hx5
  obtain ⟨lo, hi, A1, n1, c1, A2, n2, c2, A1', c1', w6, ⟨hglo, hlohi, hhi5, _, hg5⟩, hn1, hcells, hrun6, hb6, hk6, hs6, hC8⟩ := cor_mem (M := zb) (w5 := w5) hbg ((hx5.block _ hg3l).trans hg3) hdl ⟨hlo3.1, hlo3.2.1, by omega⟩ (Nat.le_of_lt (lt_of_block hB5)) (fun j d y hd hy => (hall j d y hd hy).keep hx5.lt fun q _ _ hl => hx5.block q hl) HXI.out (by have := HFZ.out.2.1; omega) (by have := HFZ.out.2.2; omega) v
  have HX25 := Lib.hid hx25
  have HX5 := Lib.hid (HX2.out.trans hx25)
  have HB5 := Lib.hid hB5
  have HGL := Lib.hid hg5
  have HGN := Lib.hid (show ¬ (lo ≤ g ∧ g < hi) by omega)
  have HBD := Lib.hid (show w2.heap.size ≤ g ∧ g < lo ∧ lo ≤ hi ∧ hi ≤ zb ∧ zb < w5.heap.size ∧ w2.heap.size ≤ w5.heap.size ∧ g < zb from ⟨hbg, hglo, hlohi, hhi5, lt_of_block hB5, hx25.lt, by omega⟩)
  have HR6 := Lib.hid hrun6
  have HK6 := Lib.hid hk6
  have HS6 := Lib.hid hs6
  have HB6 := Lib.hid hb6
  have HC8 := Lib.hid hC8
  have HN1 := Lib.hid hn1
  have HQS := Lib.hid (fun (X : World) (hX : X.heap[g]? = w5.heap[g]?) => (show X.cell? ⟨g, i * 4 + 2, none⟩ = some (.slice A1 n1 c1) ∧ X.cell? ⟨g, i * 4 + 3, none⟩ = some (.slice A2 n2 c2) from ⟨(hcells X hX).2.1, (hcells X hX).2.2.1⟩))
  have HQF := Lib.hid (fun (X : World) (hX : X.heap[g]? = w5.heap[g]?) => (show X.cell? ⟨g, i * 4 + 2, none⟩ = some (.slice A1 n1 c1) ∧ X.cell? ⟨g, i * 4 + 3, none⟩ = some (.slice A2 n2 c2) ∧ X.frozen? ⟨g, i * 4 + 2, none⟩ = false ∧ X.frozen? ⟨g, i * 4 + 3, none⟩ = false from (hcells X hX).2))
  have HQF3 := Lib.hid (fun (X : World) (u : Value) (hX : X.heap[g]? = w5.heap[g]?) => (show (X.setCell ⟨g, i * 4 + 2, none⟩ u).cell? ⟨g, i * 4 + 3, none⟩ = some (.slice A2 n2 c2) ∧ (X.setCell ⟨g, i * 4 + 2, none⟩ u).frozen? ⟨g, i * 4 + 3, none⟩ = false from
    ⟨(World.cell?_setCell_other _ _ _ _ (by intro e; injection e with e; omega)).trans (hcells X hX).2.2.1, by have h9 := (hcells X hX).2.2.2.2; simpa using h9⟩))
  have HT0 := Lib.hid (HC.out w5 HX5.out).2.1
  have hz1w := lt_of_block (HC.out w2 HX2.out).2.1
  have hz2w := lt_of_block (HC.out w2 HX2.out).2.2
  have HZW := Lib.hid (show z1 < w2.heap.size ∧ z2 < w2.heap.size from ⟨hz1w, hz2w⟩)
  have HQT := Lib.hid (fun (X : World) (hX : ∀ j, j < w5.heap.size → X.heap[j]? = w5.heap[j]?) => (show X.cell? ⟨z1, 0, none⟩ = some (.slice A3 n3 c3) ∧ X.cell? ⟨z1, 1, none⟩ = some (.slice A4 n4 c4) from
    ⟨cell_of ((hX z1 (lt_of_block HT0.out)).trans HT0.out) (i := 0) rfl, cell_of ((hX z1 (lt_of_block HT0.out)).trans HT0.out) (i := 1) rfl⟩))
  have HQT6 := Lib.hid (fun (X : World) (hX : ∀ j, j < w5.heap.size → ¬ (lo ≤ j ∧ j < hi) → X.heap[j]? = w5.heap[j]?) => (show X.cell? ⟨z1, 0, none⟩ = some (.slice A3 n3 c3) ∧ X.cell? ⟨z1, 1, none⟩ = some (.slice A4 n4 c4) from
    have h1 := (hX z1 (lt_of_block HT0.out) (by omega)).trans HT0.out
    ⟨cell_of h1 (i := 0) rfl, cell_of h1 (i := 1) rfl⟩))
  have HQS1 := Lib.hid (fun (X : World) (u : Value) (hX : ∀ j, j < w5.heap.size → ¬ (lo ≤ j ∧ j < hi) → X.heap[j]? = w5.heap[j]?) => (show (X.setCell ⟨g, i * 4 + 2, none⟩ u).cell? ⟨z1, 0, none⟩ = some (.slice A3 n3 c3) ∧ (X.setCell ⟨g, i * 4 + 2, none⟩ u).cell? ⟨z1, 1, none⟩ = some (.slice A4 n4 c4) from
    ⟨(World.cell?_setCell_other _ _ _ _ (by intro e; injection e with e; omega)).trans (HQT6.out X hX).1, (World.cell?_setCell_other _ _ _ _ (by intro e; injection e with e; omega)).trans (HQT6.out X hX).2⟩))
  have HQS2 := Lib.hid (fun (X : World) (u u' : Value) (hX : ∀ j, j < w5.heap.size → ¬ (lo ≤ j ∧ j < hi) → X.heap[j]? = w5.heap[j]?) => (show ((X.setCell ⟨g, i * 4 + 2, none⟩ u).setCell ⟨g, i * 4 + 3, none⟩ u').cell? ⟨z1, 0, none⟩ = some (.slice A3 n3 c3) ∧ ((X.setCell ⟨g, i * 4 + 2, none⟩ u).setCell ⟨g, i * 4 + 3, none⟩ u').cell? ⟨z1, 1, none⟩ = some (.slice A4 n4 c4) from
    ⟨(World.cell?_setCell_other _ _ _ _ (by intro e; injection e with e; omega)).trans (HQS1.out X u hX).1, (World.cell?_setCell_other _ _ _ _ (by intro e; injection e with e; omega)).trans (HQS1.out X u hX).2⟩))
  have HTX6 := Lib.hid (show Calls Tryz.prog 84 #[.agg #[.slice A3 n3 c3, .slice A4 n4 c4]] w6 (fun e w' => ∃ v', e = .returned v' ∧ TxV w' (fun j => w6.heap.size ≤ j) t v' ∧ Ext w6 w') from HTX.out _ (Below.trans (HX0.out.trans HX5.out) (hb6 w.heap.size (by have := (HX0.out.trans HX2.out).lt; omega))))
  have y1 := (hcells w5 rfl).1
  rw [HFZ.out.1] at y1
  have a2 := cell_of hB5 (i := 2) (u := .slice (some ⟨g, 0, none⟩) N N) rfl
  clear hw5 hzb hx5 hB5 hg3 hg3l hdl hlo3 hall hl3 hx3 hx25 hcells hrun6 hb6 hk6 hs6 hC8 hn1 hglo hlohi hhi5 hg5 hbg hz1w hz2w ds lof HTX
  go_upto_if 50 with (fail)
  go_upto_region 15 with (fail)
  have hT0 : (fun X : World => X.cell? ⟨z1, 0, none⟩ = some (.slice A3 n3 c3) ∧ X.cell? ⟨z1, 1, none⟩ = some (.slice A4 n4 c4)) w5.drew := HQT.out _ (fun j hj => rfl)
  have hS0 : (fun X : World => X.cell? ⟨g, i * 4 + 2, none⟩ = some (.slice A1 n1 c1) ∧ X.cell? ⟨g, i * 4 + 3, none⟩ = some (.slice A2 n2 c2)) w5.drew := HQS.out _ rfl
  refine wp_region_E (fun X : World => X.cell? ⟨g, i * 4 + 2, none⟩ = some (.slice A1 n1 c1) ∧ X.cell? ⟨g, i * 4 + 3, none⟩ = some (.slice A2 n2 c2)) (fun X : World => X.cell? ⟨z1, 0, none⟩ = some (.slice A3 n3 c3) ∧ X.cell? ⟨z1, 1, none⟩ = some (.slice A4 n4 c4)) (fun i => i == 1 || i == 9 || i == 10 || i == 11 || i == 13 || i == 19 || i == 20 || i == 21 || i == 22) (by kernel_rfl) ?_
  refine wpE_takeT (i := 13) (d := some 70) (v := .agg #[.slice A3 n3 c3, .slice A4 n4 c4]) rfl rfl (by kernel_rfl) (by kernel_rfl) (by kernel_rfl) rfl (fun _ _ _ h => h) (by rfl) ?hy1 hT0 ?go1
  case hy1 =>
    intro w9 hT9
    obtain ⟨y0, y1⟩ := hT9; go_simp
  (try simp only [Act.put, List.setIfInBounds_toArray, List.set_cons_zero, List.set_cons_succ])
  refine wpE_takeT (i := 1) (d := some 58) (v := .pointer (some ⟨g, i * 4, none⟩)) rfl rfl (by kernel_rfl) (by kernel_rfl) (by kernel_rfl) rfl (fun _ _ _ h => h) (by rfl) ?hy2 hT0 ?go2
  case hy2 =>
    intro w9 hT9
    clear hT9; go_simp
  (try simp only [Act.put, List.setIfInBounds_toArray, List.set_cons_zero, List.set_cons_succ])
  refine wpE_takeT (i := 9) (d := some 66) (v := .pointer (some ⟨g, i * 4, none⟩)) rfl rfl (by kernel_rfl) (by kernel_rfl) (by kernel_rfl) rfl (fun _ _ _ h => h) (by rfl) ?hy3 hT0 ?go3
  case hy3 =>
    intro w9 hT9
    clear hT9; go_simp
  (try simp only [Act.put, List.setIfInBounds_toArray, List.set_cons_zero, List.set_cons_succ])
  refine wpE_takeT (i := 10) (d := some 67) (v := .pointer (some ⟨g, i * 4, none⟩)) rfl rfl (by kernel_rfl) (by kernel_rfl) (by kernel_rfl) rfl (fun _ _ _ h => h) (by rfl) ?hy4 hT0 ?go4
  case hy4 =>
    intro w9 hT9
    clear hT9; go_simp
  (try simp only [Act.put, List.setIfInBounds_toArray, List.set_cons_zero, List.set_cons_succ])
  refine wpE_takeT (i := 11) (d := some 68) (v := .pointer (some ⟨g, i * 4 + 3, none⟩)) rfl rfl (by kernel_rfl) (by kernel_rfl) (by kernel_rfl) rfl (fun _ _ _ h => h) (by rfl) ?hy5 hT0 ?go5
  case hy5 =>
    intro w9 hT9
    clear hT9; go_simp
  (try simp only [Act.put, List.setIfInBounds_toArray, List.set_cons_zero, List.set_cons_succ])
  refine wpE_takeS (i := 0) (d := some 57) (v := .pointer (some ⟨g, i * 4, none⟩)) rfl rfl (by kernel_rfl) (by kernel_rfl) (by kernel_rfl) (by kernel_rfl) (fun _ _ _ h => h) (by rfl) ?hy6 hS0 hT0 ?go6
  case hy6 =>
    intro w9 hT9
    clear hT9; go_simp
  (try simp only [Act.put, List.setIfInBounds_toArray, List.set_cons_zero, List.set_cons_succ])
  refine wpE_takeS (i := 2) (d := some 59) (v := .pointer (some ⟨g, i * 4, none⟩)) rfl rfl (by kernel_rfl) (by kernel_rfl) (by kernel_rfl) (by kernel_rfl) (fun _ _ _ h => h) (by rfl) ?hy7 hS0 hT0 ?go7
  case hy7 =>
    intro w9 hT9
    clear hT9; go_simp
  (try simp only [Act.put, List.setIfInBounds_toArray, List.set_cons_zero, List.set_cons_succ])
  refine wpE_takeS (i := 3) (d := some 60) (v := .pointer (some ⟨g, i * 4, none⟩)) rfl rfl (by kernel_rfl) (by kernel_rfl) (by kernel_rfl) (by kernel_rfl) (fun _ _ _ h => h) (by rfl) ?hy8 hS0 hT0 ?go8
  case hy8 =>
    intro w9 hT9
    clear hT9; go_simp
  (try simp only [Act.put, List.setIfInBounds_toArray, List.set_cons_zero, List.set_cons_succ])
  refine wpE_takeS (i := 4) (d := some 61) (v := .pointer (some ⟨g, i * 4 + 2, none⟩)) rfl rfl (by kernel_rfl) (by kernel_rfl) (by kernel_rfl) (by kernel_rfl) (fun _ _ _ h => h) (by rfl) ?hy9 hS0 hT0 ?go9
  case hy9 =>
    intro w9 hT9
    clear hT9; go_simp
  (try simp only [Act.put, List.setIfInBounds_toArray, List.set_cons_zero, List.set_cons_succ])
  refine wpE_takeS (i := 5) (d := some 62) (v := .slice A1 n1 c1) rfl rfl (by kernel_rfl) (by kernel_rfl) (by kernel_rfl) (by kernel_rfl) (fun _ _ _ h => h) (by rfl) ?hy10 hS0 hT0 ?go10
  case hy10 =>
    intro w9 hT9
    obtain ⟨y0, y1⟩ := hT9; go_simp
  (try simp only [Act.put, List.setIfInBounds_toArray, List.set_cons_zero, List.set_cons_succ])
  refine wpE_takeS (i := 6) (d := some 63) (v := .int .i64 v) rfl rfl (by kernel_rfl) (by kernel_rfl) (by kernel_rfl) (by kernel_rfl) (fun _ _ _ h => h) (by rfl) ?hy11 hS0 hT0 ?go11
  case hy11 =>
    intro w9 hT9
    clear hT9; go_simp
  (try simp only [Act.put, List.setIfInBounds_toArray, List.set_cons_zero, List.set_cons_succ])
  refine wpE_takeS (i := 12) (d := some 69) (v := .slice A2 n2 c2) rfl rfl (by kernel_rfl) (by kernel_rfl) (by kernel_rfl) (by kernel_rfl) (fun _ _ _ h => h) (by rfl) ?hy12 hS0 hT0 ?go12
  case hy12 =>
    intro w9 hT9
    obtain ⟨y0, y1⟩ := hT9; go_simp
  (try simp only [Act.put, List.setIfInBounds_toArray, List.set_cons_zero, List.set_cons_succ])
  refine wpE_all (rs := [7]) (by kernel_rfl) (by simp) ?_
  refine AllE.cons rfl (fun K hK => ?_) AllE.nil
  simp only [List.getElem_toArray, List.getElem_cons_succ, List.getElem_cons_zero]
  go_simp
  have hb7 : ∀ j, j < w5.heap.size → ((w5.alloc (.cells #[.int .i64 v] 3)).drew).heap[j]? = w5.heap[j]? := fun j hj => heap_alloc_old w5 _ j hj
  refine hK.out _ _ ⟨fun _ => (HQS.out _ (hb7 g HGL.out)), (HQT.out _ hb7)⟩ (fun _ => ?_)
  clear hK K
  have hS0 := (HQS.out _ (hb7 g HGL.out))
  have hT0 := (HQT.out _ hb7)
  (try simp only [Act.put, List.setIfInBounds_toArray, List.set_cons_zero, List.set_cons_succ])
  refine wpE_all (rs := [8]) (by kernel_rfl) (by simp) ?_
  refine AllE.cons rfl (fun K hK => ?_) AllE.nil
  simp only [List.getElem_toArray, List.getElem_cons_succ, List.getElem_cons_zero]
  refine step_append_tm (s := .tmp 62) (x := .tmp 64) HR6.out rfl rfl rfl rfl rfl ?_
  refine hK.out _ _ ⟨fun _ => (HQS.out _ (HK6.out g HGL.out HGN.out)), (HQT6.out _ HK6.out)⟩ (fun _ => ?_)
  clear hK K
  have hS0 := (HQS.out _ (HK6.out g HGL.out HGN.out))
  have hT0 := (HQT6.out _ HK6.out)
  (try simp only [Act.put, List.setIfInBounds_toArray, List.set_cons_zero, List.set_cons_succ])
  refine wpE_all (rs := [14]) (by kernel_rfl) (by simp) ?_
  refine AllE.cons rfl (fun K hK => ?_) AllE.nil
  simp only [List.getElem_toArray, List.getElem_cons_succ, List.getElem_cons_zero]
  go_simp
  go_at_call 84
  refine (HTX6.out).mono ?_
  rintro z9 wG ⟨_, rfl, ⟨A7, n7, c7, A8, n8, c8, rfl, h7, h8, hr7, hr8⟩, hxG⟩
  simp only []
  obtain ⟨A2', c2', w8, hrun8, hb8, hk8, hs8, hrow8⟩ := HC8.out t wG A7 A8 n7 c7 n8 c8 hxG h7 h8 hr7 hr8
  have HG9 := Lib.hid (fun j (hj : j < w5.heap.size) (hn : ¬ (lo ≤ j ∧ j < hi)) => (hxG.block j (Nat.lt_of_lt_of_le hj HS6.out)).trans (HK6.out j hj hn))
  have HGT := Lib.hid (fun j (hj : j < w5.heap.size) (hn : ¬ (lo ≤ j ∧ j < hi)) => (heap_alloc_old wG (.cells #[.slice A7 n7 c7, .slice A8 n8 c8] 53) j (Nat.lt_of_lt_of_le (Nat.lt_of_lt_of_le hj HS6.out) hxG.lt)).trans (HG9.out j hj hn))
  have HK8 := Lib.hid hk8
  have HROW8 := Lib.hid hrow8
  have HB8 := Lib.hid (And.intro hb8 hs8)
  have HRUN8 := Lib.hid hrun8
  clear hr7 hr8 hxG hrun8 hb8 hk8 hs8 hrow8
  refine hK.out _ _ ⟨fun _ => (HQS.out _ (HG9.out g HGL.out HGN.out)), (HQT6.out _ HG9.out)⟩ (fun _ => ?_)
  clear hK K
  have hS0 := (HQS.out _ (HG9.out g HGL.out HGN.out))
  have hT0 := (HQT6.out _ HG9.out)
  (try simp only [Act.put, List.setIfInBounds_toArray, List.set_cons_zero, List.set_cons_succ])
  refine wpE_all (rs := [15]) (by kernel_rfl) (by simp) ?_
  refine AllE.cons rfl (fun K hK => ?_) AllE.nil
  simp only [List.getElem_toArray, List.getElem_cons_succ, List.getElem_cons_zero]
  go_simp
  refine hK.out _ _ ⟨fun _ => (HQS.out _ (HGT.out g HGL.out HGN.out)), (HQT6.out _ HGT.out)⟩ (fun _ => ?_)
  clear hK K
  have hS0 := (HQS.out _ (HGT.out g HGL.out HGN.out))
  have hT0 := (HQT6.out _ HGT.out)
  (try simp only [Act.put, List.setIfInBounds_toArray, List.set_cons_zero, List.set_cons_succ])
  refine wpE_all (rs := [16]) (by kernel_rfl) (by simp) ?_
  refine AllE.cons rfl (fun K hK => ?_) AllE.nil
  simp only [List.getElem_toArray, List.getElem_cons_succ, List.getElem_cons_zero]
  refine step_append_tm (s := .tmp 69) (x := .tmp 72) HRUN8.out rfl rfl rfl rfl rfl ?_
  refine hK.out _ _ ⟨fun _ => (HQS.out _ (HK8.out g HGL.out HGN.out)), (HQT6.out _ HK8.out)⟩ (fun _ => ?_)
  clear hK K
  have hS0 := (HQS.out _ (HK8.out g HGL.out HGN.out))
  have hT0 := (HQT6.out _ HK8.out)
  (try simp only [Act.put, List.setIfInBounds_toArray, List.set_cons_zero, List.set_cons_succ])
  refine wpE_all (rs := [17]) (by kernel_rfl) (by simp) ?_
  refine AllE.cons rfl (fun K hK => ?_) AllE.nil
  simp only [List.getElem_toArray, List.getElem_cons_succ, List.getElem_cons_zero]
  go_simp
  refine hK.out _ _ ⟨fun _ => (HQS.out _ (HK8.out g HGL.out HGN.out)), (HQT6.out _ HK8.out)⟩ (fun _ => ?_)
  clear hK K
  have hS0 := (HQS.out _ (HK8.out g HGL.out HGN.out))
  have hT0 := (HQT6.out _ HK8.out)
  (try simp only [Act.put, List.setIfInBounds_toArray, List.set_cons_zero, List.set_cons_succ])
  refine wpE_all (rs := [18]) (by kernel_rfl) (by simp) ?_
  refine AllE.cons rfl (fun K hK => ?_) AllE.nil
  simp only [List.getElem_toArray, List.getElem_cons_succ, List.getElem_cons_zero]
  go_simp
  refine hK.out _ _ ⟨fun _ => (HQS.out _ (HK8.out g HGL.out HGN.out)), (HQT6.out _ HK8.out)⟩ (fun _ => ?_)
  clear hK K
  have hS0 := (HQS.out _ (HK8.out g HGL.out HGN.out))
  have hT0 := (HQT6.out _ HK8.out)
  (try simp only [Act.put, List.setIfInBounds_toArray, List.set_cons_zero, List.set_cons_succ])
  refine wpE_all (rs := [19]) (by kernel_rfl) (by simp) ?_
  refine AllE.cons rfl (fun K hK => ?_) AllE.nil
  simp only [List.getElem_toArray, List.getElem_cons_succ, List.getElem_cons_zero]
  have z5 := HQF.out w8 (HK8.out g HGL.out HGN.out)
  obtain ⟨z50, z51, z52, z53⟩ := z5
  go_simp
  refine hK.out _ _ ⟨fun h => absurd h (by simp), (HQS1.out w8 (.slice A1' (n1 + 1) c1') HK8.out)⟩ (fun _ => ?_)
  clear hK K
  have hT0 := (HQS1.out w8 (.slice A1' (n1 + 1) c1') HK8.out)
  (try simp only [Act.put, List.setIfInBounds_toArray, List.set_cons_zero, List.set_cons_succ])
  clear hS0
  refine wpE_all (rs := [20]) (by kernel_rfl) (by simp) ?_
  refine AllE.cons rfl (fun K hK => ?_) AllE.nil
  simp only [List.getElem_toArray, List.getElem_cons_succ, List.getElem_cons_zero]
  go_simp
  refine hK.out _ _ ⟨fun h => absurd h (by simp), (HQS1.out w8 (.slice A1' (n1 + 1) c1') HK8.out)⟩ (fun _ => ?_)
  clear hK K
  have hT0 := (HQS1.out w8 (.slice A1' (n1 + 1) c1') HK8.out)
  (try simp only [Act.put, List.setIfInBounds_toArray, List.set_cons_zero, List.set_cons_succ])
  refine wpE_all (rs := [21]) (by kernel_rfl) (by simp) ?_
  refine AllE.cons rfl (fun K hK => ?_) AllE.nil
  simp only [List.getElem_toArray, List.getElem_cons_succ, List.getElem_cons_zero]
  go_simp
  refine hK.out _ _ ⟨fun h => absurd h (by simp), (HQS1.out w8 (.slice A1' (n1 + 1) c1') HK8.out)⟩ (fun _ => ?_)
  clear hK K
  have hT0 := (HQS1.out w8 (.slice A1' (n1 + 1) c1') HK8.out)
  (try simp only [Act.put, List.setIfInBounds_toArray, List.set_cons_zero, List.set_cons_succ])
  refine wpE_all (rs := [22]) (by kernel_rfl) (by simp) ?_
  refine AllE.cons rfl (fun K hK => ?_) AllE.nil
  simp only [List.getElem_toArray, List.getElem_cons_succ, List.getElem_cons_zero]
  have z6 := HQF3.out w8 (.slice A1' (n1 + 1) c1') (HK8.out g HGL.out HGN.out)
  obtain ⟨z60, z61⟩ := z6
  go_simp
  refine hK.out _ _ ⟨fun h => absurd h (by simp), (HQS2.out w8 (.slice A1' (n1 + 1) c1') (.slice A2' (n2 + 1) c2') HK8.out)⟩ (fun _ => ?_)
  clear hK K
  have hT0 := (HQS2.out w8 (.slice A1' (n1 + 1) c1') (.slice A2' (n2 + 1) c2') HK8.out)
  (try simp only [Act.put, List.setIfInBounds_toArray, List.set_cons_zero, List.set_cons_succ])
  clear hT0
  refine wpE_done (by kernel_rfl) ?_ _
  have HCC := Lib.hid (show CoC w w2 ((w8.setCell ⟨g, i * 4 + 2, none⟩ (.slice A1' (n1 + 1) c1')).setCell ⟨g, i * 4 + 3, none⟩ (.slice A2' (n2 + 1) c2')) zb g N i n1 b.ms b.ht (corP b i x v t).secs from by
    have hbd := HBD.out
    have hk : ∀ j, j ≠ g → ((w8.setCell ⟨g, i * 4 + 2, none⟩ (.slice A1' (n1 + 1) c1')).setCell ⟨g, i * 4 + 3, none⟩ (.slice A2' (n2 + 1) c2')).heap[j]? = w8.heap[j]? := fun j hj => by
      rw [heap_setCell_other _ ⟨g, i * 4 + 3, none⟩ j _ hj, heap_setCell_other _ ⟨g, i * 4 + 2, none⟩ j _ hj]
    refine ⟨fun j hj => (hk j (by omega)).trans ((HK8.out j (by omega) (by omega)).trans (HX25.out.block j hj)), (hk zb (by omega)).trans ((HK8.out zb (by omega) (by omega)).trans HB5.out), ?_, ?_, ?_⟩
    · obtain ⟨o, ho⟩ : ∃ o, w8.heap[g]? = some o := ⟨_, Array.getElem?_eq_getElem (by have := HB8.out.2; omega)⟩
      have h9 := (HQF.out w8 (HK8.out g HGL.out HGN.out)).1
      exact ⟨A1', c1', (World.cell?_setCell_other _ _ _ _ (by intro e; injection e with _ e; omega)).trans (World.cell?_setCell_same _ _ _ h9)⟩
    · have h9 := HROW8.out
      rw [← HN.out] at h9
      exact h9
    · have hw2 := (HX0.out.trans HX2.out).lt
      exact ((Below.trans (HX0.out.trans HX5.out) (HB8.out.1 w.heap.size (by omega))).setCell (p := ⟨g, i * 4 + 2, none⟩) (by show w.heap.size ≤ g; omega) _).setCell (p := ⟨g, i * 4 + 3, none⟩) (by show w.heap.size ≤ g; omega) _)
  obtain ⟨W10, hW10⟩ : ∃ W, (w8.setCell ⟨g, i * 4 + 2, none⟩ (.slice A1' (n1 + 1) c1')).setCell ⟨g, i * 4 + 3, none⟩ (.slice A2' (n2 + 1) c2') = W := ⟨_, rfl⟩
  rw [hW10] at HCC ⊢
  clear hW10 HK8 HB8 HROW8 HRUN8 HG9 HGT HC8 HTX6 HR6 HK6 HS6 HB6 HQS HQF HQF3 HQT HQT6 HQS1 HQS2 y1 a2
  obtain ⟨A9, c9, y9⟩ := HCC.out.v
  have hb10 := HCC.out.b
  have a0 := cell_of hb10 (i := 0) (u := .int .i64 b.ms) rfl
  have a1 := cell_of hb10 (i := 1) (u := .int .i64 b.ht) rfl
  have a2 := cell_of hb10 (i := 2) (u := .slice (some ⟨g, 0, none⟩) N N) rfl
  have hR2 := (HC.out w2 HX2.out).2.2
  have hR10 := (HCC.out.k z2 (lt_of_block hR2)).trans hR2
  have HR10 := Lib.hid hR10
  obtain ⟨k0, k1, k2, j0, j1, j2⟩ := BkR.of hR10
  clear hb10 hR2 hR10
  by_cases h100 : 100 < n1 + 1
  · have hI9 : (100 : Int) < (n1 : Int) + 1 := by omega
    have HE0 := Lib.hid (show corE b i x v t = 2 by rw [HE.out, if_pos (.inl (by have := HN1.out; omega))])
    clear h100
    go_wp2_with fail
    have HRF := HR10
    have hxf : Ext W10 W10 := Ext.refl _
    have hs := st3 HRF.out (.int .i64 0) (.int .i64 0) (.slice none 0 0)
    have q0 := cell_of hs (i := 0) rfl
    have q1 := cell_of hs (i := 1) rfl
    have q2 := cell_of hs (i := 2) rfl
    refine bodyPost_ret (v := .tuple #[.agg #[.int .i64 0, .int .i64 0, .slice none 0 0], .int .i64 2]) (by simp [results, Tryz.results38, go_sem, q0, q1, q2]) rfl ?_
    refine ⟨ext3 (HCC.out.x.trans hxf) (by have := HZ.out; omega) _ _ _, ?_⟩
    exact .inl ⟨by rw [HE0.out]; decide, by rw [HE0.out]⟩
  · have hI9 : ¬ (100 : Int) < (n1 : Int) + 1 := by omega
    have HN9 := Lib.hid (show ¬ 100 < x.vers.length + 1 by have := HN1.out; omega)
    clear h100 k0 k1 k2 j0 j1 j2
    by_cases hc : 16384 < np
    · have HE0 := Lib.hid (show corE b i x v t = 2 by rw [HE.out, if_pos (.inr hc)])
      have HF := Lib.hid (show Calls Tryz.prog 85 #[.agg #[.int .i64 b.ms, .int .i64 b.ht, .slice (some ⟨g, 0, none⟩) N N]] W10 (fun z9 wf => Ext W10 wf ∧ z9 = .returned (.tuple #[.agg #[.int .i64 0, .int .i64 0, .slice none 0 0], .int .i64 2])) from by
        refine (HFT.out _ HCC.out.x _ _ N HCC.out.r).mono ?_
        rintro z9 wf ⟨hxf, (⟨hnp, rfl⟩ | ⟨hnp, rfl⟩)⟩
        · omega
        · exact ⟨hxf, rfl⟩)
      clear HFT
      go_wp2_with (first | (go_at_call 85; refine (HF.out).mono ?_; rintro z9 wf ⟨hxf, rfl⟩; have hRf := (hxf.block _ (lt_of_block HR10.out)).trans HR10.out; obtain ⟨k0, k1, k2, j0, j1, j2⟩ := BkR.of hRf; have HRF := Lib.hid hRf; clear hRf))
      have hs := st3 HRF.out (.int .i64 0) (.int .i64 0) (.slice none 0 0)
      have q0 := cell_of hs (i := 0) rfl
      have q1 := cell_of hs (i := 1) rfl
      have q2 := cell_of hs (i := 2) rfl
      refine bodyPost_ret (v := .tuple #[.agg #[.int .i64 0, .int .i64 0, .slice none 0 0], .int .i64 2]) (by simp [results, Tryz.results38, go_sem, q0, q1, q2]) rfl ?_
      refine ⟨ext3 (HCC.out.x.trans hxf) (by have := HZ.out; omega) _ _ _, ?_⟩
      exact .inl ⟨by rw [HE0.out]; decide, by rw [HE0.out]⟩
    · have HE0 := Lib.hid (show corE b i x v t = 0 by rw [HE.out, if_neg (by rintro (h | h); exact HN9.out h; exact hc h)])
      have HF := Lib.hid (show Calls Tryz.prog 85 #[.agg #[.int .i64 b.ms, .int .i64 b.ht, .slice (some ⟨g, 0, none⟩) N N]] W10 (fun z9 wf => Ext W10 wf ∧ z9 = .returned (.tuple #[.agg #[.int .i64 b.ms, .int .i64 b.ht, .slice (some ⟨g, 0, none⟩) N N], .int .i64 0])) from by
        refine (HFT.out _ HCC.out.x _ _ N HCC.out.r).mono ?_
        rintro z9 wf ⟨hxf, (⟨hnp, rfl⟩ | ⟨hnp, rfl⟩)⟩
        · exact ⟨hxf, rfl⟩
        · omega)
      clear HFT
      go_wp2_with (first | (go_at_call 85; refine (HF.out).mono ?_; rintro z9 wf ⟨hxf, rfl⟩; have hRf := (hxf.block _ (lt_of_block HR10.out)).trans HR10.out; obtain ⟨k0, k1, k2, j0, j1, j2⟩ := BkR.of hRf; have HRF := Lib.hid hRf; clear hRf))
      have hs := st3 HRF.out (.int .i64 b.ms) (.int .i64 b.ht) (.slice (some ⟨g, 0, none⟩) N N)
      have q0 := cell_of hs (i := 0) rfl
      have q1 := cell_of hs (i := 1) rfl
      have q2 := cell_of hs (i := 2) rfl
      refine bodyPost_ret (v := .tuple #[.agg #[.int .i64 b.ms, .int .i64 b.ht, .slice (some ⟨g, 0, none⟩) N N], .int .i64 0]) (by simp [results, Tryz.results38, go_sem, q0, q1, q2]) rfl ?_
      refine ⟨ext3 (HCC.out.x.trans hxf) (by have := HZ.out; omega) _ _ _, ?_⟩
      have hwl := (HX0.out.trans HX2.out).lt
      refine .inr ⟨HE0.out, some ⟨g, 0, none⟩, N, N, rfl, Nat.le_refl _, Lay.row_mono (Lay.row_keep HCC.out.r (by have := hxf.lt; simp; omega) fun j hj hl => ?_) fun j hj _ => Nat.le_trans hwl hj⟩
      have hz9 : j ≠ z2 := by have := HZW.out.2; omega
      exact (heap_setCell_other _ ⟨z2, 2, none⟩ j _ hz9).trans ((heap_setCell_other _ ⟨z2, 1, none⟩ j _ hz9).trans ((heap_setCell_other _ ⟨z2, 0, none⟩ j _ hz9).trans (hxf.block j hl)))
end Go.Proofs.YtdbnddmncbjobaaGreatDoor

/- The law IndexFrozen: walked (printed by genzi.py). -/
namespace Go.Proofs.YtdbnddmncbjobaaGreatDoor
open Go Go.RowKit
attribute [local go_sem] Oper.semAt_some

/-- What Add or Correct left in its box. -/
def AdQ (w8 : World) (E ms ht : Int) (SE : List Se) (s13 s14 : Value) (W : World) : Prop := ∃ (zq : Nat) (x0 x1 : Int) (A : Option Addr) (n c : Nat), s13 = .pointer (some ⟨zq, 0, none⟩) ∧ s14 = .int .i64 E ∧ W.heap[zq]? = some (.cells #[.int .i64 x0, .int .i64 x1, .slice A n c] 27 (0, 0)) ∧ (E = 0 → x0 = ms ∧ x1 = ht ∧ kSe.row W (fun _ => True) A n SE) ∧ Ext w8 W
/-- Items at a book of at most N sections of V texts. -/
theorem items_gen (w : World) (b : Bk) (N9 V9 : Nat) (br tb : Int) (ls : List Sea) (A A2 : Option Addr) (N c n2 c2 : Nat) (P Q : Nat → Prop) (hb : OkB b N9 V9) (h9 : N9 ≤ 1000 ∧ V9 ≤ 1000 ∧ 200 * V9 * N9 ≤ 4000) (hr : kSe.row w P A N b.secs) (hs : kSea.row w Q A2 n2 ls) (hn : n2 ≤ 1000000) (hg : ∀ s ∈ ls, OkSea s) (hL : EnvW w) :
    Calls Tryz.prog 19 #[.agg #[.int .i64 b.ms, .int .i64 b.ht, .slice A N c], .int .i64 br, .int .i64 tb, .slice A2 n2 c2] w fun e w' => ∃ A1 n1 c1, e = .returned (.slice A1 n1 c1) ∧ TbV w' A1 n1 c1 (itemsB br tb ls b) 16000000 ∧ Ext w w' := by
  refine (iitems_any P Q w b N9 V9 br tb ls A A2 N c n2 c2 hb h9.1 h9.2.1 h9.2.2 hr hs hn hg hL).mono ?_
  rintro e w' ⟨A1, n1, c1, rfl, h1, h2⟩
  exact ⟨A1, n1, c1, rfl, TbV.mono h1 (hits_len hb h9.2.2 br tb ls), h2⟩
theorem co_row {W : World} {A : Option Addr} {n b k : Nat} {ls : List Se} (h : kSe.row W (fun q => k ≤ q) A n ls) (hb : b < k) (v0 v1 v2 : Value) : kSe.row (((W.setCell ⟨b, 0, none⟩ v0).setCell ⟨b, 1, none⟩ v1).setCell ⟨b, 2, none⟩ v2) (fun _ => True) A n ls :=
  Lay.row_mono (Lay.row_keep h (by simp) fun j hj _ => by rw [heap_setCell_other _ ⟨b, 2, none⟩ j _ (by show j ≠ b; omega), heap_setCell_other _ ⟨b, 1, none⟩ j _ (by show j ≠ b; omega), heap_setCell_other _ ⟨b, 0, none⟩ j _ (by show j ≠ b; omega)]) fun _ _ _ => trivial
theorem idxI_ent {l : List Se} (h : (l.map (·.ent)).Nodup) {j : Nat} {x : Se} (hx : l[j]? = some x) : idxI (fun y => y.ent == x.ent) l = (j : Int) := by
  by_cases h0 : 0 ≤ idxI (fun y => y.ent == x.ent) l
  · obtain ⟨i, y, h1, h2, h3⟩ := idxI_some _ l h0
    have h4 : y.ent = x.ent := by simpa using h3
    rw [h1, nodup_at h (i := i) (j := j) (x := x.ent) (by rw [List.getElem?_map, h2, Option.map_some, h4]) (by rw [List.getElem?_map, hx, Option.map_some])]
  · have := idxI_none _ l h0 x (List.mem_of_getElem? hx)
    simp at this
theorem OkG.ents {b : Bk} (h : OkG b) {x : Se} (hx : x ∈ b.secs) : x.ent ≤ 100 := by
  obtain ⟨fr, hs⟩ := h.s
  obtain ⟨k, hk⟩ := List.getElem?_of_mem hx
  have hk4 : k < 4 := by have := (List.getElem?_eq_some_iff.1 hk).1; have := h.n; omega
  have := (hs k x hk).ent.2
  omega
set_option maxHeartbeats 8000000 in
set_option maxRecDepth 100000 in
theorem frozen31_law (At : Option Addr) (ct : Nat) (lt : List Int) (A A' : Option Addr) (c c' : Nat) (l l' : List Int) (br tb which : Int) (w : World) (h : IL w A c l) (hl : l.length ≤ 9223372036854775807) (h' : IL w A' c' l') (hl' : l'.length ≤ 9223372036854775807) (ht9 : IL w At ct lt)
    (htb : -9223372036854775808 ≤ tb ∧ tb ≤ 9223372036854775807) (hmy : -9223372036854775808 ≤ which ∧ which ≤ 9223372036854775807) (hL : EnvW w) :
    Calls Tryz.prog 9 #[.agg #[.slice A l.length c, .slice A' l'.length c', .int .i64 br, .int .i64 tb], .slice At lt.length ct, .int .i64 which] w fun e w' => e = .returned (.bool true) ∧ Ext w w' := by
  have HLV := Lib.hid (fun X (hX : Ext w X) => lives31_any X (hL.ext hX))
  have HL := Lib.hid (fun X (hX : Ext w X) => hL.ext hX)
  have HMA := Lib.hid (fun X (hX : Ext w X) => made_any A A' c c' l l' br tb X (h.ext hX) hl (h'.ext hX) hl')
  have HTB := Lib.hid (fun X => around3_fn tb 2 X htb.1 htb.2 (by omega) (by omega))
  have HMY := Lib.hid (fun X (k : Int) (h1 : 1 ≤ k) (h2 : k ≤ 1000000000) => around3_fn which k X hmy.1 hmy.2 h1 h2)
  have HTE := Lib.hid (fun X (hX : Ext w X) => gtext_lay At ct lt X ht9.ok (ht9.sl.ext hX))
  clear h h' hl hl' htb hmy hL ht9
  obtain ⟨nt9, hnt9⟩ : ∃ nt9, lt.length = nt9 := ⟨_, rfl⟩
  rw [hnt9] at HTE ⊢
  clear hnt9
  obtain ⟨n1, hn1⟩ : ∃ n1, l.length = n1 := ⟨_, rfl⟩
  obtain ⟨n2, hn2⟩ : ∃ n2, l'.length = n2 := ⟨_, rfl⟩
  rw [hn1, hn2] at HMA ⊢
  clear hn1 hn2
  obtain ⟨t, ht⟩ : ∃ t, arnd tb 2 = t := ⟨_, rfl⟩
  rw [ht] at HTB
  clear ht
  obtain ⟨z, hz⟩ : ∃ z, w.heap.size = z := ⟨_, rfl⟩
  obtain ⟨w1, hw1⟩ : ∃ w1, w.alloc (.cells #[.slice A n1 c, .slice A' n2 c', .int .i64 br, .int .i64 tb] 24) = w1 := ⟨_, rfl⟩
  have hx1 : Ext w w1 := by rw [← hw1]; exact (Ext.refl w).alloc _
  have hB1 : w1.heap[z]? = some (.cells #[.slice A n1 c, .slice A' n2 c', .int .i64 br, .int .i64 tb] 24 (0, 0)) := by rw [← hw1, ← hz]; exact heap_alloc_new _ _
  have HX1 := Lib.hid hx1
  have HB1 := Lib.hid hB1
  have a0 := cell_of hB1 (i := 0) rfl
  have a1 := cell_of hB1 (i := 1) rfl
  have a2 := cell_of hB1 (i := 2) rfl
  have a3 := cell_of hB1 (i := 3) rfl
  clear hx1 hB1
  go_enter Tryz.func9, Tryz.ntmps9
  go_upto_region 1 with (fail)
  clear hw1 hz
  go_wp2_with fail
  refine (HMA.out _ HX1.out).mono ?_
  rintro e w2 ⟨b, B, N, cB, S, m, cS, ls, rfl, hok, hnc, hr, hmc, hrs, hlm, hgs, hx2⟩
  have HOK := Lib.hid hok.okB
  have HEN := Lib.hid (fun x (hx : x ∈ b.secs) => hok.ents hx)
  have HX2 := Lib.hid hx2
  have HM := Lib.hid (Lay.row_len hrs)
  have HMC := Lib.hid hmc
  have HLM := Lib.hid hlm
  have HGS := Lib.hid hgs
  have HSA := Lib.hid (fun e => row_A hrs e)
  obtain ⟨g, hg⟩ : ∃ g, w2.heap.size = g := ⟨_, rfl⟩
  obtain ⟨w3, hw3⟩ : ∃ w3, w2.alloc (.cells #[.int .i64 b.ms, .int .i64 b.ht, .slice B N cB] 27) = w3 := ⟨_, rfl⟩
  have hx23 : Ext w2 w3 := by rw [← hw3]; exact (Ext.refl w2).alloc _
  have hB3 : w3.heap[g]? = some (.cells #[.int .i64 b.ms, .int .i64 b.ht, .slice B N cB] 27 (0, 0)) := by rw [← hw3, ← hg]; exact heap_alloc_new _ _
  have HX3 := Lib.hid (hx2.trans hx23)
  have HB3 := Lib.hid hB3
  have HR := Lib.hid (fun X (hX : Ext w3 X) => Lay.row_ext hr (hx23.trans hX))
  have HRS := Lib.hid (fun X (hX : Ext w3 X) => Lay.row_ext hrs (hx23.trans hX))
  have HEV := Lib.hid (fun X (hX : Ext w3 X) => HL.out X (HX1.out.trans (HX3.out.trans hX)))
  have HQ := Lib.hid (fun X (hX : Ext w3 X) => (show (X.cell? ⟨z, 2, none⟩ = some (.int .i64 br) ∧ X.cell? ⟨z, 3, none⟩ = some (.int .i64 tb)) ∧ X.cell? ⟨g, 0, none⟩ = some (.int .i64 b.ms) ∧ X.cell? ⟨g, 1, none⟩ = some (.int .i64 b.ht) ∧ X.cell? ⟨g, 2, none⟩ = some (.slice B N cB) from
    have h9 := (hX.block _ (lt_of_block HB3.out)).trans HB3.out
    have h8 := ((HX3.out.trans hX).block _ (lt_of_block HB1.out)).trans HB1.out
    ⟨⟨cell_of h8 (i := 2) rfl, cell_of h8 (i := 3) rfl⟩, cell_of h9 (i := 0) rfl, cell_of h9 (i := 1) rfl, cell_of h9 (i := 2) rfl⟩))
  clear a0 a1 a2 a3 hx2 hx23 hB3 hr hrs hok hmc hlm hgs
  go_upto_region 2 with (fail)
  clear hw3 hg
  obtain ⟨⟨a2, a3⟩, p0, p1, p2⟩ := HQ.out _ (Ext.refl _)
  go_upto_region 3 with (first | (go_at_call 17; refine (HTB.out _).mono ?_; rintro e w9 ⟨rfl, rfl⟩))
  have HM8 := Lib.hid (show m ≤ 1000000 from by have := HM.out; have := HLM.out; omega)
  have HFZ := Lib.hid (freeze_any _ w3 b B N cB (HR.out _ (Ext.refl _)) (HOK.out.bkI (by omega) (by omega) (by omega)).s)
  have HOF := Lib.hid HOK.out.frz
  go_wp2_with fail
  refine (HFZ.out).mono ?_
  rintro e w4 ⟨gf, rfl, hbo, hx4⟩
  have hrf := hbo.row
  have hnf := Lay.row_len (HR.out _ (Ext.refl _))
  rw [show (frzP b).secs.length = N from by unfold frzP; rw [List.length_map]; exact hnf.symm] at hrf
  obtain ⟨f, hf⟩ : ∃ f, frzP b = f := ⟨_, rfl⟩
  have HFM := Lib.hid (show f.ms = b.ms ∧ f.ht = b.ht from by rw [← hf]; exact ⟨rfl, rfl⟩)
  have HNE := Lib.hid (show ∀ y ∈ f.secs, y.ent ≠ 60000 from fun y hy => by
    rw [← hf] at hy
    unfold frzP at hy
    obtain ⟨y', hy', rfl⟩ := List.mem_map.1 hy
    have := HEN.out y' hy'
    simp only []
    omega)
  have HFA := Lib.hid (show ∀ y ∈ f.secs, y.fz = true from by rw [← hf]; exact frzP_all b)
  rw [hf] at hrf HOF
  obtain ⟨zf, hzf⟩ : ∃ zf, w4.heap.size = zf := ⟨_, rfl⟩
  obtain ⟨w5, hw5⟩ : ∃ w5, w4.alloc (.cells #[.int .i64 b.ms, .int .i64 b.ht, .slice (some ⟨gf, 0, none⟩) N N] 27) = w5 := ⟨_, rfl⟩
  have hx45 : Ext w4 w5 := by rw [← hw5]; exact (Ext.refl w4).alloc _
  have hB5 : w5.heap[zf]? = some (.cells #[.int .i64 b.ms, .int .i64 b.ht, .slice (some ⟨gf, 0, none⟩) N N] 27 (0, 0)) := by rw [← hw5, ← hzf]; exact heap_alloc_new _ _
  have HX5 := Lib.hid (hx4.trans hx45)
  have HRF := Lib.hid (fun X (hX : Ext w5 X) => Lay.row_ext hrf (hx45.trans hX))
  have HQF := Lib.hid (fun X (hX : Ext w5 X) => (show X.cell? ⟨z, 2, none⟩ = some (.int .i64 br) ∧ X.cell? ⟨zf, 0, none⟩ = some (.int .i64 b.ms) ∧ X.cell? ⟨zf, 1, none⟩ = some (.int .i64 b.ht) ∧ X.cell? ⟨zf, 2, none⟩ = some (.slice (some ⟨gf, 0, none⟩) N N) from
    have h9 := (hX.block _ (lt_of_block hB5)).trans hB5
    ⟨(HQ.out X (HX5.out.trans hX)).1.1, cell_of h9 (i := 0) rfl, cell_of h9 (i := 1) rfl, cell_of h9 (i := 2) rfl⟩))
  have HN4 := Lib.hid (show N ≤ 4 ∧ N = f.secs.length from ⟨by have := HOK.out.n; omega, by rw [← hf]; unfold frzP; rw [List.length_map]; exact hnf⟩)
  clear hx4 hx45 hB5 hbo hrf hnf hf a2 a3 p0 p1 p2
  go_upto_region 4 with (fail)
  clear hw5 hzf
  have HI1 := Lib.hid (fun X (hX : Ext w5 X) => (show Calls Tryz.prog 19 #[.agg #[.int .i64 b.ms, .int .i64 b.ht, .slice (some ⟨gf, 0, none⟩) N N], .int .i64 br, .int .i64 t, .slice S m cS] X (fun e w' => ∃ A1 n1 c1, e = .returned (.slice A1 n1 c1) ∧ TbV w' A1 n1 c1 (itemsB br t ls f) 16000000 ∧ Ext X w') from by
    have h9 := items_mk X f br t ls (some ⟨gf, 0, none⟩) S N N m cS _ _ HOF.out (HRF.out X hX) (HRS.out X (HX5.out.trans hX)) HM8.out HGS.out (HEV.out X (HX5.out.trans hX))
    rw [HFM.out.1, HFM.out.2] at h9
    exact h9))
  obtain ⟨a2, p0, p1, p2⟩ := HQF.out _ (Ext.refl _)
  go_wp2_with fail
  refine (HI1.out _ (Ext.refl _)).mono ?_
  rintro e w6 ⟨Aa, na, ca, rfl, hTa, hx6⟩
  have HTA := Lib.hid hTa
  have HX6 := Lib.hid hx6
  clear hTa hx6 a2 p0 p1 p2
  go_wp2_with fail
  refine (HTE.out _ (HX1.out.trans (HX3.out.trans (HX5.out.trans HX6.out)))).mono ?_
  rintro e w7 ⟨tx, vt, rfl, hok, ⟨A5, n5, c5, A6, n6, c6, rfl, hn5, hn6, hr5, hr6⟩, hx7⟩
  obtain ⟨zt, hzt⟩ : ∃ zt, w7.heap.size = zt := ⟨_, rfl⟩
  obtain ⟨w8, hw8⟩ : ∃ w8, w7.alloc (.cells #[.slice A5 n5 c5, .slice A6 n6 c6] 53) = w8 := ⟨_, rfl⟩
  have hx78 : Ext w7 w8 := by rw [← hw8]; exact (Ext.refl w7).alloc _
  have hB8 : w8.heap[zt]? = some (.cells #[.slice A5 n5 c5, .slice A6 n6 c6] 53 (0, 0)) := by rw [← hw8, ← hzt]; exact heap_alloc_new _ _
  have HOT := Lib.hid hok
  have HX8 := Lib.hid (HX6.out.trans (hx7.trans hx78))
  have HR5 := Lib.hid (fun X (hX : Ext w8 X) => Lay.row_ext hr5 (hx78.trans hX))
  have HR6 := Lib.hid (fun X (hX : Ext w8 X) => Lay.row_ext hr6 (hx78.trans hX))
  have HTA8 := Lib.hid (HTA.out.ext (hx7.trans hx78))
  have HQG := Lib.hid (fun X (hX : Ext w8 X) => (show (X.cell? ⟨z, 2, none⟩ = some (.int .i64 br) ∧ X.cell? ⟨zf, 0, none⟩ = some (.int .i64 b.ms) ∧ X.cell? ⟨zf, 1, none⟩ = some (.int .i64 b.ht) ∧ X.cell? ⟨zf, 2, none⟩ = some (.slice (some ⟨gf, 0, none⟩) N N)) ∧ X.cell? ⟨zt, 0, none⟩ = some (.slice A5 n5 c5) ∧ X.cell? ⟨zt, 1, none⟩ = some (.slice A6 n6 c6) from
    have h9 := (hX.block _ (lt_of_block hB8)).trans hB8
    ⟨HQF.out X (HX8.out.trans hX), cell_of h9 (i := 0) rfl, cell_of h9 (i := 1) rfl⟩))
  have HBF := Lib.hid (HOF.out.bkI (by omega) (by omega) (by omega))
  have HADD := Lib.hid (show Calls Tryz.prog 37 #[.agg #[.int .i64 b.ms, .int .i64 b.ht, .slice (some ⟨gf, 0, none⟩) N N], .int .i64 60000, .int .i64 2147483647, .agg #[.slice A5 n5 c5, .slice A6 n6 c6]] w8 (OpPost w8 (addE f 60000 2147483647 tx) b.ms b.ht (f.secs ++ [⟨60000, false, [2147483647], [tx]⟩])) from by
    have h9 := add_any _ _ w8 f 60000 2147483647 tx (some ⟨gf, 0, none⟩) A5 A6 N N n5 c5 n6 c6 HBF.out HOF.out.h0 (fun _ => (HOF.out.add (by omega) 2147483647 HOT.out HNE.out).bkI (by omega) (by omega) (by omega)) HOT.out (HRF.out w8 HX8.out) (HR5.out w8 (Ext.refl _)) (HR6.out w8 (Ext.refl _)) (HEV.out w8 (HX5.out.trans HX8.out))
    rw [HFM.out.1, HFM.out.2] at h9
    exact h9)
  clear hok hr5 hr6 hx7 hx78 hB8 hn5 hn6
  go_upto_region 6 with (fail)
  clear hw8 hzt
  obtain ⟨⟨a2, p0, p1, p2⟩, t0, t1⟩ := HQG.out _ (Ext.refl _)
  go_cut [13, 14] (fun s13 s14 wx => AdQ w8 (addE f 60000 2147483647 tx) b.ms b.ht (f.secs ++ [⟨60000, false, [2147483647], [tx]⟩]) s13 s14 wx)
  case first =>
    go_wp2_with fail
    refine (HADD.out).mono ?_
    rintro e w9 ⟨hx9, (⟨hne, rfl⟩ | ⟨h0, A9, n9, c9, rfl, hn9, hr9⟩)⟩
    · go_wp2
      go_meet
      case rel => exact ⟨w9.heap.size, 0, 0, none, 0, 0, rfl, rfl, heap_alloc_new _ _, fun e0 => absurd e0 hne, hx9.alloc _⟩
    · have HRR := Lib.hid (Lay.row_ext (Lay.row_mono hr9 (Q := fun _ => True) fun _ _ _ => trivial) ((Ext.refl w9).alloc (.cells #[.int .i64 b.ms, .int .i64 b.ht, .slice A9 n9 c9] 27)))
      have HEE := Lib.hid h0
      clear hr9 h0
      go_wp2
      go_meet
      case rel => exact ⟨w9.heap.size, b.ms, b.ht, A9, n9, c9, rfl, by rw [HEE.out], heap_alloc_new _ _, fun _ => ⟨rfl, rfl, HRR.out⟩, hx9.alloc _⟩
  case rest =>
    obtain ⟨zq, x0, x1, A9, n9, c9, rfl, rfl, hzq, hq, hxq⟩ := hcut
    have HXQ := Lib.hid hxq
    have HZQ := Lib.hid hzq
    have HQQ := Lib.hid hq
    obtain ⟨er, her⟩ : ∃ er, addE f 60000 2147483647 tx = er := ⟨_, rfl⟩
    rw [her] at HQQ ⊢
    clear hzq hq hxq a2 p0 p1 p2 t0 t1 her
    have k0 := cell_of HZQ.out (i := 0) (u := .int .i64 x0) rfl
    have k1 := cell_of HZQ.out (i := 1) (u := .int .i64 x1) rfl
    have k2 := cell_of HZQ.out (i := 2) (u := .slice A9 n9 c9) rfl
    have a2 := (HQG.out _ HXQ.out).1.1
    go_upto_region 7 with (fail)
    go_cut [53] (fun s53 wx => s53 = .bool false ∧ Ext wc wx)
    case first =>
      by_cases h0 : er = 0
      case neg =>
        have g0 : (er == 0) = false := by simpa using h0
        go_wp2_with fail
        go_meet
        case rel => exact ⟨rfl, Ext.refl _⟩
      subst h0
      obtain ⟨rfl, rfl, hrq⟩ := HQQ.out rfl
      have HI2 := Lib.hid (show Calls Tryz.prog 19 #[.agg #[.int .i64 b.ms, .int .i64 b.ht, .slice A9 n9 c9], .int .i64 br, .int .i64 t, .slice S m cS] wc (fun e w' => ∃ A1 n1 c1, e = .returned (.slice A1 n1 c1) ∧ TbV w' A1 n1 c1 (itemsB br t ls (addP f 60000 2147483647 tx)) 16000000 ∧ Ext wc w') from by
        have h9 := items_gen wc (addP f 60000 2147483647 tx) 5 3 br t ls A9 S n9 c9 m cS _ _ (HOF.out.add (by omega) 2147483647 HOT.out HNE.out) (by omega) hrq (HRS.out wc (HX5.out.trans (HX8.out.trans HXQ.out))) HM8.out HGS.out (HEV.out wc (HX5.out.trans (HX8.out.trans HXQ.out)))
        unfold addP at h9 ⊢
        rw [HFM.out.1, HFM.out.2] at h9
        rw [HFM.out.1, HFM.out.2]
        exact h9)
      have HSUB := Lib.hid (show mrgP (itemsB br t ls f) (itemsB br t ls (addP f 60000 2147483647 tx)) = itemsB br t ls (addP f 60000 2147483647 tx) from items_sub fun k c hh => hit_add HOF.out HOT.out HNE.out hh)
      clear hrq
      go_wp2_with fail
      refine (HI2.out).mono ?_
      rintro e wy ⟨A1, m1, d1, rfl, hT, hxy⟩
      have HT2 := Lib.hid hT
      have HXY := Lib.hid hxy
      clear hT hxy k0 k1 k2 a2
      go_wp2_with fail
      refine (within31_any wy Aa A1 na m1 ca d1 16000000 16000000 _ _ (HTA8.out.ext (HXQ.out.trans HXY.out)) HT2.out (by omega) HSUB.out).mono ?_
      rintro e wz ⟨rfl, hxz⟩
      have HXZ := Lib.hid (HXY.out.trans hxz)
      clear hxz
      go_wp2_with fail
      go_meet
      case rel => exact ⟨rfl, HXZ.out⟩
    case rest =>
      obtain ⟨rfl, hxd⟩ := hcut
      have HXD := Lib.hid (HXQ.out.trans hxd)
      clear hxd k0 k1 k2 a2
      obtain ⟨⟨a2, p0, p1, p2⟩, t0, t1⟩ := HQG.out _ HXD.out
      by_cases hN : N = 0
      · have g9 : ¬ (0 : Int) < (N : Int) := by omega
        go_wp2_with fail
        refine (HLV.out _ (HX1.out.trans (HX3.out.trans (HX5.out.trans (HX8.out.trans HXD.out))))).mono ?_
        rintro e wz ⟨rfl, hxz⟩
        have HXZ := Lib.hid (HX1.out.trans (HX3.out.trans (HX5.out.trans (HX8.out.trans (HXD.out.trans hxz)))))
        clear hxz
        go_wp2_with fail
        go_ret
        exact ⟨rfl, HXZ.out⟩
      have g9 : (0 : Int) < (N : Int) := by omega
      obtain ⟨j, hj, hjb⟩ := around_nat which N (by omega)
      have HPN := Lib.hid (fun X => (show Calls Tryz.prog 17 #[.int .i64 which, .int .i64 (N : Int)] X (fun e w' => e = .returned (.int .i64 (j : Int)) ∧ X = w') from by rw [← hj]; exact HMY.out X N (by omega) (by have := HN4.out; omega)))
      clear hj
      have hI : (j : Int) < (N : Int) := by omega
      have hJ0 : ¬ (j : Int) < 0 := by omega
      obtain ⟨x, hxi⟩ : ∃ x, f.secs[j]? = some x := ⟨_, List.getElem?_eq_getElem (by have := HN4.out; omega)⟩
      obtain ⟨bs, os, cs, ebs, hbs, _, hrep, hcs⟩ := Lay.row_at (HRF.out wc (HX8.out.trans HXD.out)) hxi
      obtain ⟨rfl, rfl⟩ : gf = bs ∧ 0 = os := by
        simp only [Option.some.injEq, Addr.mk.injEq, and_true] at ebs
        exact ebs
      obtain ⟨A1, nv, c1, A2, nt, c2, rfl, hn1, hn2, hr1, hr2⟩ := kSe_rep.1 hrep
      have e0 := hcs 0 _ rfl
      rw [kSe_sz, Nat.zero_add, Nat.add_zero] at e0
      have HXI := Lib.hid hxi
      have hxm := List.mem_of_getElem? hxi
      have hvs := HOF.out.vs x hxm
      obtain ⟨er2, her2⟩ : ∃ er2, corE f j x 2147483647 tx = er2 := ⟨_, rfl⟩
      have HVN := Lib.hid (show er2 = 0 → (2147483647 : Int) ∉ x.vers from fun h0 hv => by
        rw [← her2] at h0
        unfold corE at h0
        rw [if_neg (by decide), if_pos (by simpa using hv)] at h0
        exact absurd h0 (by decide))
      have HCO := Lib.hid (fun X (hX : Ext wc X) => (show Calls Tryz.prog 38 #[.agg #[.int .i64 b.ms, .int .i64 b.ht, .slice (some ⟨gf, 0, none⟩) N N], .int .i64 x.ent, .int .i64 2147483647, .agg #[.slice A5 n5 c5, .slice A6 n6 c6]] X (fun z9 w' => ∃ x0 x1 A9 n9 c9, z9 = .returned (.tuple #[.agg #[.int .i64 x0, .int .i64 x1, .slice A9 n9 c9], .int .i64 er2]) ∧ (er2 = 0 → x0 = b.ms ∧ x1 = b.ht ∧ kSe.row w' (fun q => X.heap.size ≤ q) A9 n9 (corP f j x 2147483647 tx).secs) ∧ Ext X w') from by
        have hYtdbnddmncbjobaaGreatDoor := HXD.out.trans hX
        have h9 := correct_any _ _ X f x.ent 2147483647 tx j x (some ⟨gf, 0, none⟩) A5 A6 N N n5 c5 n6 c6 HBF.out HOF.out.h0 ((HOF.out.cor hxi 2147483647 HOT.out).bkI (by omega) (by omega) (by omega)) HOT.out (idxI_ent HOF.out.ent hxi) hxi (HFA.out x hxm) (by omega) (by omega) (HRF.out X (HX8.out.trans hYtdbnddmncbjobaaGreatDoor)) (HR5.out X hYtdbnddmncbjobaaGreatDoor) (HR6.out X hYtdbnddmncbjobaaGreatDoor) (HEV.out X (HX5.out.trans (HX8.out.trans hYtdbnddmncbjobaaGreatDoor)))
        rw [HFM.out.1, HFM.out.2, her2] at h9
        refine h9.mono ?_
        rintro e w' ⟨hx9, (⟨hne, rfl⟩ | ⟨h0, A9, n9, c9, rfl, hn9, hr9⟩)⟩
        · exact ⟨0, 0, none, 0, 0, rfl, fun e0 => absurd e0 hne, hx9⟩
        · exact ⟨b.ms, b.ht, A9, n9, c9, by rw [h0], fun _ => ⟨rfl, rfl, hr9⟩, hx9⟩))
      have HQK := Lib.hid (fun X (hX : Ext wc X) => (show ((X.cell? ⟨z, 2, none⟩ = some (.int .i64 br) ∧ X.cell? ⟨zf, 0, none⟩ = some (.int .i64 b.ms) ∧ X.cell? ⟨zf, 1, none⟩ = some (.int .i64 b.ht) ∧ X.cell? ⟨zf, 2, none⟩ = some (.slice (some ⟨gf, 0, none⟩) N N)) ∧ X.cell? ⟨zt, 0, none⟩ = some (.slice A5 n5 c5) ∧ X.cell? ⟨zt, 1, none⟩ = some (.slice A6 n6 c6)) ∧ X.cell? ⟨gf, j * 4, none⟩ = some (.int .i64 x.ent) from
        ⟨HQG.out X (HXD.out.trans hX), (hX.cells.1 _ _ hbs).trans e0⟩))
      clear hrep hcs hr1 hr2 hxi hxm hvs e0 hbs her2 hn1 hn2 ebs
      go_upto_region 10 with (fail)
      clear g9 a2 p0 p1 p2 t0 t1
      have hcur : Ext wc wc.drew := (Ext.refl _).drew
      go_cut [15, 16] (fun s15 s16 wx => AdQ wc er2 b.ms b.ht (corP f j x 2147483647 tx).secs s15 s16 wx)
      case first =>
        have hS0 : (fun X : World => ((X.cell? ⟨z, 2, none⟩ = some (.int .i64 br) ∧ X.cell? ⟨zf, 0, none⟩ = some (.int .i64 b.ms) ∧ X.cell? ⟨zf, 1, none⟩ = some (.int .i64 b.ht) ∧ X.cell? ⟨zf, 2, none⟩ = some (.slice (some ⟨gf, 0, none⟩) N N)) ∧ X.cell? ⟨zt, 0, none⟩ = some (.slice A5 n5 c5) ∧ X.cell? ⟨zt, 1, none⟩ = some (.slice A6 n6 c6)) ∧ X.cell? ⟨gf, j * 4, none⟩ = some (.int .i64 x.ent)) wc.drew := HQK.out _ hcur
        refine wp_region_E (fun X : World => ((X.cell? ⟨z, 2, none⟩ = some (.int .i64 br) ∧ X.cell? ⟨zf, 0, none⟩ = some (.int .i64 b.ms) ∧ X.cell? ⟨zf, 1, none⟩ = some (.int .i64 b.ht) ∧ X.cell? ⟨zf, 2, none⟩ = some (.slice (some ⟨gf, 0, none⟩) N N)) ∧ X.cell? ⟨zt, 0, none⟩ = some (.slice A5 n5 c5) ∧ X.cell? ⟨zt, 1, none⟩ = some (.slice A6 n6 c6)) ∧ X.cell? ⟨gf, j * 4, none⟩ = some (.int .i64 x.ent)) (fun _ => True) (fun i => i == 18) (by kernel_rfl) ?_
        refine wpE_takeS (i := 0) (d := some 59) (v := .agg #[.int .i64 b.ms, .int .i64 b.ht, .slice (some ⟨gf, 0, none⟩) N N]) rfl rfl (by kernel_rfl) (by kernel_rfl) (by kernel_rfl) (by kernel_rfl) (fun _ _ _ h => h) (by rfl) ?hye1 hS0 trivial ?goe1
        case hye1 =>
          intro w9 hT9
          obtain ⟨⟨⟨y9, y0, y1, y2⟩, y3, y4⟩, y5⟩ := hT9; go_simp
        (try simp only [Act.put, List.setIfInBounds_toArray, List.set_cons_zero, List.set_cons_succ])
        refine wpE_takeS (i := 1) (d := some 60) (v := .pointer (some ⟨zf, 2, none⟩)) rfl rfl (by kernel_rfl) (by kernel_rfl) (by kernel_rfl) (by kernel_rfl) (fun _ _ _ h => h) (by rfl) ?hye2 hS0 trivial ?goe2
        case hye2 =>
          intro w9 hT9
          clear hT9; go_simp
        (try simp only [Act.put, List.setIfInBounds_toArray, List.set_cons_zero, List.set_cons_succ])
        refine wpE_takeS (i := 2) (d := some 61) (v := .slice (some ⟨gf, 0, none⟩) N N) rfl rfl (by kernel_rfl) (by kernel_rfl) (by kernel_rfl) (by kernel_rfl) (fun _ _ _ h => h) (by rfl) ?hye3 hS0 trivial ?goe3
        case hye3 =>
          intro w9 hT9
          obtain ⟨⟨⟨y9, y0, y1, y2⟩, y3, y4⟩, y5⟩ := hT9; go_simp
        (try simp only [Act.put, List.setIfInBounds_toArray, List.set_cons_zero, List.set_cons_succ])
        refine wpE_takeS (i := 3) (d := some 62) (v := .int .i64 which) rfl rfl (by kernel_rfl) (by kernel_rfl) (by kernel_rfl) (by kernel_rfl) (fun _ _ _ h => h) (by rfl) ?hye4 hS0 trivial ?goe4
        case hye4 =>
          intro w9 hT9
          clear hT9; go_simp
        (try simp only [Act.put, List.setIfInBounds_toArray, List.set_cons_zero, List.set_cons_succ])
        refine wpE_takeS (i := 4) (d := some 63) (v := .pointer (some ⟨zf, 2, none⟩)) rfl rfl (by kernel_rfl) (by kernel_rfl) (by kernel_rfl) (by kernel_rfl) (fun _ _ _ h => h) (by rfl) ?hye5 hS0 trivial ?goe5
        case hye5 =>
          intro w9 hT9
          clear hT9; go_simp
        (try simp only [Act.put, List.setIfInBounds_toArray, List.set_cons_zero, List.set_cons_succ])
        refine wpE_takeS (i := 5) (d := some 64) (v := .slice (some ⟨gf, 0, none⟩) N N) rfl rfl (by kernel_rfl) (by kernel_rfl) (by kernel_rfl) (by kernel_rfl) (fun _ _ _ h => h) (by rfl) ?hye6 hS0 trivial ?goe6
        case hye6 =>
          intro w9 hT9
          obtain ⟨⟨⟨y9, y0, y1, y2⟩, y3, y4⟩, y5⟩ := hT9; go_simp
        (try simp only [Act.put, List.setIfInBounds_toArray, List.set_cons_zero, List.set_cons_succ])
        refine wpE_takeS (i := 6) (d := some 65) (v := .int .i64 (N : Int)) rfl rfl (by kernel_rfl) (by kernel_rfl) (by kernel_rfl) (by kernel_rfl) (fun _ _ _ h => h) (by rfl) ?hye7 hS0 trivial ?goe7
        case hye7 =>
          intro w9 hT9
          clear hT9; go_simp
        (try simp only [Act.put, List.setIfInBounds_toArray, List.set_cons_zero, List.set_cons_succ])
        refine wpE_takeS (i := 11) (d := some 70) (v := .agg #[.slice A5 n5 c5, .slice A6 n6 c6]) rfl rfl (by kernel_rfl) (by kernel_rfl) (by kernel_rfl) (by kernel_rfl) (fun _ _ _ h => h) (by rfl) ?hye8 hS0 trivial ?goe8
        case hye8 =>
          intro w9 hT9
          obtain ⟨⟨⟨y9, y0, y1, y2⟩, y3, y4⟩, y5⟩ := hT9; go_simp
        (try simp only [Act.put, List.setIfInBounds_toArray, List.set_cons_zero, List.set_cons_succ])
        refine wpE_all (rs := [7, 16]) (by kernel_rfl) (by simp) ?_
        refine AllE.cons rfl (fun K hK => ?_) (AllE.cons rfl (fun K hK => ?_) AllE.nil)
        · skip
          simp only [List.getElem_toArray, List.getElem_cons_succ, List.getElem_cons_zero]
          go_simp
          go_at_call 17
          refine (HPN.out _).mono ?_
          rintro z9 wg ⟨rfl, rfl⟩
          simp only []
          refine hK.out _ _ ⟨fun _ => (HQK.out _ hcur), trivial⟩ (fun _ => ?_)
          clear hK K
          have hS0 := (HQK.out _ hcur)
          (try simp only [Act.put, List.setIfInBounds_toArray, List.set_cons_zero, List.set_cons_succ])
          refine wpE_takeS (i := 8) (d := some 67) (v := .pointer (some ⟨gf, j * 4, none⟩)) rfl rfl (by kernel_rfl) (by kernel_rfl) (by kernel_rfl) (by kernel_rfl) (fun _ _ _ h => h) (by rfl) ?hye9 hS0 trivial ?goe9
          case hye9 =>
            intro w9 hT9
            clear hT9; go_simp
          (try simp only [Act.put, List.setIfInBounds_toArray, List.set_cons_zero, List.set_cons_succ])
          refine wpE_takeS (i := 9) (d := some 68) (v := .pointer (some ⟨gf, j * 4, none⟩)) rfl rfl (by kernel_rfl) (by kernel_rfl) (by kernel_rfl) (by kernel_rfl) (fun _ _ _ h => h) (by rfl) ?hye10 hS0 trivial ?goe10
          case hye10 =>
            intro w9 hT9
            clear hT9; go_simp
          (try simp only [Act.put, List.setIfInBounds_toArray, List.set_cons_zero, List.set_cons_succ])
          refine wpE_takeS (i := 10) (d := some 69) (v := .int .i64 x.ent) rfl rfl (by kernel_rfl) (by kernel_rfl) (by kernel_rfl) (by kernel_rfl) (fun _ _ _ h => h) (by rfl) ?hye11 hS0 trivial ?goe11
          case hye11 =>
            intro w9 hT9
            obtain ⟨⟨⟨y9, y0, y1, y2⟩, y3, y4⟩, y5⟩ := hT9; go_simp
          (try simp only [Act.put, List.setIfInBounds_toArray, List.set_cons_zero, List.set_cons_succ])
          refine wpE_all (rs := [12, 16]) (by kernel_rfl) (by simp) ?_
          refine AllE.cons rfl (fun K hK => ?_) (AllE.cons rfl (fun K hK => ?_) AllE.nil)
          · skip
            simp only [List.getElem_toArray, List.getElem_cons_succ, List.getElem_cons_zero]
            go_simp
            go_at_call 38
            refine (HCO.out _ hcur).mono ?_
            rintro z9 wg ⟨x0, x1, A9, n9, c9, rfl, hco, hxg⟩
            have hcur : Ext wc wg := hcur.trans hxg
            simp only []
            refine hK.out _ _ ⟨fun _ => (HQK.out _ hcur), trivial⟩ (fun _ => ?_)
            clear hK K
            have hS0 := (HQK.out _ hcur)
            (try simp only [Act.put, List.setIfInBounds_toArray, List.set_cons_zero, List.set_cons_succ])
            refine wpE_takeS (i := 13) (d := some 58) (v := .tuple #[.agg #[.int .i64 x0, .int .i64 x1, .slice A9 n9 c9], .int .i64 er2]) rfl rfl (by kernel_rfl) (by kernel_rfl) (by kernel_rfl) (by kernel_rfl) (fun _ _ _ h => h) (by rfl) ?hye12 hS0 trivial ?goe12
            case hye12 =>
              intro w9 hT9
              clear hT9; go_simp
            (try simp only [Act.put, List.setIfInBounds_toArray, List.set_cons_zero, List.set_cons_succ])
            refine wpE_takeS (i := 14) (d := some 72) (v := .agg #[.int .i64 x0, .int .i64 x1, .slice A9 n9 c9]) rfl rfl (by kernel_rfl) (by kernel_rfl) (by kernel_rfl) (by kernel_rfl) (fun _ _ _ h => h) (by rfl) ?hye13 hS0 trivial ?goe13
            case hye13 =>
              intro w9 hT9
              clear hT9; go_simp
            (try simp only [Act.put, List.setIfInBounds_toArray, List.set_cons_zero, List.set_cons_succ])
            refine wpE_takeS (i := 15) (d := some 73) (v := .int .i64 er2) rfl rfl (by kernel_rfl) (by kernel_rfl) (by kernel_rfl) (by kernel_rfl) (fun _ _ _ h => h) (by rfl) ?hye14 hS0 trivial ?goe14
            case hye14 =>
              intro w9 hT9
              clear hT9; go_simp
            (try simp only [Act.put, List.setIfInBounds_toArray, List.set_cons_zero, List.set_cons_succ])
            refine wpE_all (rs := [16]) (by kernel_rfl) (by simp) ?_
            refine AllE.cons rfl (fun K hK => ?_) AllE.nil
            simp only [List.getElem_toArray, List.getElem_cons_succ, List.getElem_cons_zero]
            go_simp
            refine hK.out _ _ ⟨fun _ => (HQK.out _ (hcur.alloc (.cells #[.int .i64 0, .int .i64 0, .slice none 0 0] 27))), trivial⟩ (fun _ => ?_)
            clear hK K
            have hS0 := (HQK.out _ (hcur.alloc (.cells #[.int .i64 0, .int .i64 0, .slice none 0 0] 27)))
            (try simp only [Act.put, List.setIfInBounds_toArray, List.set_cons_zero, List.set_cons_succ])
            refine wpE_all (rs := [17]) (by kernel_rfl) (by simp) ?_
            refine AllE.cons rfl (fun K hK => ?_) AllE.nil
            simp only [List.getElem_toArray, List.getElem_cons_succ, List.getElem_cons_zero]
            go_simp
            refine hK.out _ _ ⟨fun _ => HQK.out _ (hcur.alloc (.cells #[.int .i64 x0, .int .i64 x1, .slice A9 n9 c9] 27)), trivial⟩ (fun _ => ?_)
            clear hK K
            (try simp only [Act.put, List.setIfInBounds_toArray, List.set_cons_zero, List.set_cons_succ])
            have HFIN := Lib.hid (show AdQ wc er2 b.ms b.ht (corP f j x 2147483647 tx).secs (.pointer (some ⟨wg.heap.size, 0, none⟩)) (.int .i64 er2) (wg.alloc (.cells #[.int .i64 x0, .int .i64 x1, .slice A9 n9 c9] 27)) from ⟨_, x0, x1, A9, n9, c9, rfl, rfl, heap_alloc_new _ _, fun e0 => ⟨(hco e0).1, (hco e0).2.1, Lay.row_ext (Lay.row_mono (hco e0).2.2 fun _ _ _ => trivial) ((Ext.refl wg).alloc _)⟩, hcur.alloc _⟩)
            refine wpE_all (rs := [18]) (by kernel_rfl) (by simp) ?_
            refine AllE.cons rfl (fun K hK => ?_) AllE.nil
            simp only [List.getElem_toArray, List.getElem_cons_succ, List.getElem_cons_zero]
            go_simp
            refine hK.out _ _ ⟨fun h => absurd h (by simp), trivial⟩ (fun _ => ?_)
            clear hK K
            (try simp only [Act.put, List.setIfInBounds_toArray, List.set_cons_zero, List.set_cons_succ])
            refine wpE_done (by kernel_rfl) ?_ _
            go_wp2
            go_meet
            case rel => exact HFIN.out
          · skip
            simp only [List.getElem_toArray, List.getElem_cons_succ, List.getElem_cons_zero]
            go_simp
            refine hK.out _ _ ⟨fun _ => (HQK.out _ (hcur.alloc (.cells #[.int .i64 0, .int .i64 0, .slice none 0 0] 27))), trivial⟩ (fun _ => ?_)
            clear hK K
            have hS0 := (HQK.out _ (hcur.alloc (.cells #[.int .i64 0, .int .i64 0, .slice none 0 0] 27)))
            (try simp only [Act.put, List.setIfInBounds_toArray, List.set_cons_zero, List.set_cons_succ])
            refine wpE_all (rs := [12]) (by kernel_rfl) (by simp) ?_
            refine AllE.cons rfl (fun K hK => ?_) AllE.nil
            simp only [List.getElem_toArray, List.getElem_cons_succ, List.getElem_cons_zero]
            go_simp
            go_at_call 38
            refine (HCO.out _ (hcur.alloc (.cells #[.int .i64 0, .int .i64 0, .slice none 0 0] 27))).mono ?_
            rintro z9 wg ⟨x0, x1, A9, n9, c9, rfl, hco, hxg⟩
            have hcur : Ext wc wg := (hcur.alloc (.cells #[.int .i64 0, .int .i64 0, .slice none 0 0] 27)).trans hxg
            simp only []
            refine hK.out _ _ ⟨fun _ => (HQK.out _ hcur), trivial⟩ (fun _ => ?_)
            clear hK K
            have hS0 := (HQK.out _ hcur)
            (try simp only [Act.put, List.setIfInBounds_toArray, List.set_cons_zero, List.set_cons_succ])
            refine wpE_takeS (i := 13) (d := some 58) (v := .tuple #[.agg #[.int .i64 x0, .int .i64 x1, .slice A9 n9 c9], .int .i64 er2]) rfl rfl (by kernel_rfl) (by kernel_rfl) (by kernel_rfl) (by kernel_rfl) (fun _ _ _ h => h) (by rfl) ?hye15 hS0 trivial ?goe15
            case hye15 =>
              intro w9 hT9
              clear hT9; go_simp
            (try simp only [Act.put, List.setIfInBounds_toArray, List.set_cons_zero, List.set_cons_succ])
            refine wpE_takeS (i := 14) (d := some 72) (v := .agg #[.int .i64 x0, .int .i64 x1, .slice A9 n9 c9]) rfl rfl (by kernel_rfl) (by kernel_rfl) (by kernel_rfl) (by kernel_rfl) (fun _ _ _ h => h) (by rfl) ?hye16 hS0 trivial ?goe16
            case hye16 =>
              intro w9 hT9
              clear hT9; go_simp
            (try simp only [Act.put, List.setIfInBounds_toArray, List.set_cons_zero, List.set_cons_succ])
            refine wpE_takeS (i := 15) (d := some 73) (v := .int .i64 er2) rfl rfl (by kernel_rfl) (by kernel_rfl) (by kernel_rfl) (by kernel_rfl) (fun _ _ _ h => h) (by rfl) ?hye17 hS0 trivial ?goe17
            case hye17 =>
              intro w9 hT9
              clear hT9; go_simp
            (try simp only [Act.put, List.setIfInBounds_toArray, List.set_cons_zero, List.set_cons_succ])
            have hV : wg.heap[wc.heap.size]? = some (.cells #[.int .i64 0, .int .i64 0, .slice none 0 0] 27 (0, 0)) := (hxg.block _ (by rw [World.size_alloc]; exact Nat.lt_succ_self _)).trans (heap_alloc_new wc.drew _)
            have f0 := frozen_of hV 0
            have f1 := frozen_of hV 1
            have f2 := frozen_of hV 2
            have v09 := cell_of hV (i := 0) (u := .int .i64 0) rfl
            have v19 := cell_of hV (i := 1) (u := .int .i64 0) rfl
            have v29 := cell_of hV (i := 2) (u := .slice none 0 0) rfl
            refine wpE_all (rs := [17]) (by kernel_rfl) (by simp) ?_
            refine AllE.cons rfl (fun K hK => ?_) AllE.nil
            simp only [List.getElem_toArray, List.getElem_cons_succ, List.getElem_cons_zero]
            go_simp
            refine hK.out _ _ ⟨fun _ => HQK.out _ (((hcur.setCell (p := ⟨wc.heap.size, 0, none⟩) (Nat.le_refl _) (.int .i64 x0)).setCell (p := ⟨wc.heap.size, 1, none⟩) (Nat.le_refl _) (.int .i64 x1)).setCell (p := ⟨wc.heap.size, 2, none⟩) (Nat.le_refl _) (.slice A9 n9 c9)), trivial⟩ (fun _ => ?_)
            clear hK K
            (try simp only [Act.put, List.setIfInBounds_toArray, List.set_cons_zero, List.set_cons_succ])
            clear f0 f1 f2 v09 v19 v29
            have HFIN := Lib.hid (show AdQ wc er2 b.ms b.ht (corP f j x 2147483647 tx).secs (.pointer (some ⟨wc.heap.size, 0, none⟩)) (.int .i64 er2) (((wg.setCell ⟨wc.heap.size, 0, none⟩ (.int .i64 x0)).setCell ⟨wc.heap.size, 1, none⟩ (.int .i64 x1)).setCell ⟨wc.heap.size, 2, none⟩ (.slice A9 n9 c9)) from ⟨_, x0, x1, A9, n9, c9, rfl, rfl, heap_setCell_same _ _ 2 _ 27 _ (heap_setCell_same _ _ 1 _ 27 _ (heap_setCell_same _ _ 0 _ 27 _ hV)), fun e0 => ⟨(hco e0).1, (hco e0).2.1, co_row (hco e0).2.2 (by simp) _ _ _⟩, (((hcur.setCell (p := ⟨wc.heap.size, 0, none⟩) (Nat.le_refl _) (.int .i64 x0)).setCell (p := ⟨wc.heap.size, 1, none⟩) (Nat.le_refl _) (.int .i64 x1)).setCell (p := ⟨wc.heap.size, 2, none⟩) (Nat.le_refl _) (.slice A9 n9 c9))⟩)
            refine wpE_all (rs := [18]) (by kernel_rfl) (by simp) ?_
            refine AllE.cons rfl (fun K hK => ?_) AllE.nil
            simp only [List.getElem_toArray, List.getElem_cons_succ, List.getElem_cons_zero]
            go_simp
            refine hK.out _ _ ⟨fun h => absurd h (by simp), trivial⟩ (fun _ => ?_)
            clear hK K
            (try simp only [Act.put, List.setIfInBounds_toArray, List.set_cons_zero, List.set_cons_succ])
            refine wpE_done (by kernel_rfl) ?_ _
            go_wp2
            go_meet
            case rel => exact HFIN.out
        · skip
          simp only [List.getElem_toArray, List.getElem_cons_succ, List.getElem_cons_zero]
          go_simp
          refine hK.out _ _ ⟨fun _ => (HQK.out _ (hcur.alloc (.cells #[.int .i64 0, .int .i64 0, .slice none 0 0] 27))), trivial⟩ (fun _ => ?_)
          clear hK K
          have hS0 := (HQK.out _ (hcur.alloc (.cells #[.int .i64 0, .int .i64 0, .slice none 0 0] 27)))
          (try simp only [Act.put, List.setIfInBounds_toArray, List.set_cons_zero, List.set_cons_succ])
          refine wpE_all (rs := [7]) (by kernel_rfl) (by simp) ?_
          refine AllE.cons rfl (fun K hK => ?_) AllE.nil
          simp only [List.getElem_toArray, List.getElem_cons_succ, List.getElem_cons_zero]
          go_simp
          go_at_call 17
          refine (HPN.out _).mono ?_
          rintro z9 wg ⟨rfl, rfl⟩
          simp only []
          refine hK.out _ _ ⟨fun _ => (HQK.out _ (hcur.alloc (.cells #[.int .i64 0, .int .i64 0, .slice none 0 0] 27))), trivial⟩ (fun _ => ?_)
          clear hK K
          have hS0 := (HQK.out _ (hcur.alloc (.cells #[.int .i64 0, .int .i64 0, .slice none 0 0] 27)))
          (try simp only [Act.put, List.setIfInBounds_toArray, List.set_cons_zero, List.set_cons_succ])
          refine wpE_takeS (i := 8) (d := some 67) (v := .pointer (some ⟨gf, j * 4, none⟩)) rfl rfl (by kernel_rfl) (by kernel_rfl) (by kernel_rfl) (by kernel_rfl) (fun _ _ _ h => h) (by rfl) ?hye18 hS0 trivial ?goe18
          case hye18 =>
            intro w9 hT9
            clear hT9; go_simp
          (try simp only [Act.put, List.setIfInBounds_toArray, List.set_cons_zero, List.set_cons_succ])
          refine wpE_takeS (i := 9) (d := some 68) (v := .pointer (some ⟨gf, j * 4, none⟩)) rfl rfl (by kernel_rfl) (by kernel_rfl) (by kernel_rfl) (by kernel_rfl) (fun _ _ _ h => h) (by rfl) ?hye19 hS0 trivial ?goe19
          case hye19 =>
            intro w9 hT9
            clear hT9; go_simp
          (try simp only [Act.put, List.setIfInBounds_toArray, List.set_cons_zero, List.set_cons_succ])
          refine wpE_takeS (i := 10) (d := some 69) (v := .int .i64 x.ent) rfl rfl (by kernel_rfl) (by kernel_rfl) (by kernel_rfl) (by kernel_rfl) (fun _ _ _ h => h) (by rfl) ?hye20 hS0 trivial ?goe20
          case hye20 =>
            intro w9 hT9
            obtain ⟨⟨⟨y9, y0, y1, y2⟩, y3, y4⟩, y5⟩ := hT9; go_simp
          (try simp only [Act.put, List.setIfInBounds_toArray, List.set_cons_zero, List.set_cons_succ])
          refine wpE_all (rs := [12]) (by kernel_rfl) (by simp) ?_
          refine AllE.cons rfl (fun K hK => ?_) AllE.nil
          simp only [List.getElem_toArray, List.getElem_cons_succ, List.getElem_cons_zero]
          go_simp
          go_at_call 38
          refine (HCO.out _ (hcur.alloc (.cells #[.int .i64 0, .int .i64 0, .slice none 0 0] 27))).mono ?_
          rintro z9 wg ⟨x0, x1, A9, n9, c9, rfl, hco, hxg⟩
          have hcur : Ext wc wg := (hcur.alloc (.cells #[.int .i64 0, .int .i64 0, .slice none 0 0] 27)).trans hxg
          simp only []
          refine hK.out _ _ ⟨fun _ => (HQK.out _ hcur), trivial⟩ (fun _ => ?_)
          clear hK K
          have hS0 := (HQK.out _ hcur)
          (try simp only [Act.put, List.setIfInBounds_toArray, List.set_cons_zero, List.set_cons_succ])
          refine wpE_takeS (i := 13) (d := some 58) (v := .tuple #[.agg #[.int .i64 x0, .int .i64 x1, .slice A9 n9 c9], .int .i64 er2]) rfl rfl (by kernel_rfl) (by kernel_rfl) (by kernel_rfl) (by kernel_rfl) (fun _ _ _ h => h) (by rfl) ?hye21 hS0 trivial ?goe21
          case hye21 =>
            intro w9 hT9
            clear hT9; go_simp
          (try simp only [Act.put, List.setIfInBounds_toArray, List.set_cons_zero, List.set_cons_succ])
          refine wpE_takeS (i := 14) (d := some 72) (v := .agg #[.int .i64 x0, .int .i64 x1, .slice A9 n9 c9]) rfl rfl (by kernel_rfl) (by kernel_rfl) (by kernel_rfl) (by kernel_rfl) (fun _ _ _ h => h) (by rfl) ?hye22 hS0 trivial ?goe22
          case hye22 =>
            intro w9 hT9
            clear hT9; go_simp
          (try simp only [Act.put, List.setIfInBounds_toArray, List.set_cons_zero, List.set_cons_succ])
          refine wpE_takeS (i := 15) (d := some 73) (v := .int .i64 er2) rfl rfl (by kernel_rfl) (by kernel_rfl) (by kernel_rfl) (by kernel_rfl) (fun _ _ _ h => h) (by rfl) ?hye23 hS0 trivial ?goe23
          case hye23 =>
            intro w9 hT9
            clear hT9; go_simp
          (try simp only [Act.put, List.setIfInBounds_toArray, List.set_cons_zero, List.set_cons_succ])
          have hV : wg.heap[wc.heap.size]? = some (.cells #[.int .i64 0, .int .i64 0, .slice none 0 0] 27 (0, 0)) := (hxg.block _ (by rw [World.size_alloc]; exact Nat.lt_succ_self _)).trans (heap_alloc_new wc.drew _)
          have f0 := frozen_of hV 0
          have f1 := frozen_of hV 1
          have f2 := frozen_of hV 2
          have v09 := cell_of hV (i := 0) (u := .int .i64 0) rfl
          have v19 := cell_of hV (i := 1) (u := .int .i64 0) rfl
          have v29 := cell_of hV (i := 2) (u := .slice none 0 0) rfl
          refine wpE_all (rs := [17]) (by kernel_rfl) (by simp) ?_
          refine AllE.cons rfl (fun K hK => ?_) AllE.nil
          simp only [List.getElem_toArray, List.getElem_cons_succ, List.getElem_cons_zero]
          go_simp
          refine hK.out _ _ ⟨fun _ => HQK.out _ (((hcur.setCell (p := ⟨wc.heap.size, 0, none⟩) (Nat.le_refl _) (.int .i64 x0)).setCell (p := ⟨wc.heap.size, 1, none⟩) (Nat.le_refl _) (.int .i64 x1)).setCell (p := ⟨wc.heap.size, 2, none⟩) (Nat.le_refl _) (.slice A9 n9 c9)), trivial⟩ (fun _ => ?_)
          clear hK K
          (try simp only [Act.put, List.setIfInBounds_toArray, List.set_cons_zero, List.set_cons_succ])
          clear f0 f1 f2 v09 v19 v29
          have HFIN := Lib.hid (show AdQ wc er2 b.ms b.ht (corP f j x 2147483647 tx).secs (.pointer (some ⟨wc.heap.size, 0, none⟩)) (.int .i64 er2) (((wg.setCell ⟨wc.heap.size, 0, none⟩ (.int .i64 x0)).setCell ⟨wc.heap.size, 1, none⟩ (.int .i64 x1)).setCell ⟨wc.heap.size, 2, none⟩ (.slice A9 n9 c9)) from ⟨_, x0, x1, A9, n9, c9, rfl, rfl, heap_setCell_same _ _ 2 _ 27 _ (heap_setCell_same _ _ 1 _ 27 _ (heap_setCell_same _ _ 0 _ 27 _ hV)), fun e0 => ⟨(hco e0).1, (hco e0).2.1, co_row (hco e0).2.2 (by simp) _ _ _⟩, (((hcur.setCell (p := ⟨wc.heap.size, 0, none⟩) (Nat.le_refl _) (.int .i64 x0)).setCell (p := ⟨wc.heap.size, 1, none⟩) (Nat.le_refl _) (.int .i64 x1)).setCell (p := ⟨wc.heap.size, 2, none⟩) (Nat.le_refl _) (.slice A9 n9 c9))⟩)
          refine wpE_all (rs := [18]) (by kernel_rfl) (by simp) ?_
          refine AllE.cons rfl (fun K hK => ?_) AllE.nil
          simp only [List.getElem_toArray, List.getElem_cons_succ, List.getElem_cons_zero]
          go_simp
          refine hK.out _ _ ⟨fun h => absurd h (by simp), trivial⟩ (fun _ => ?_)
          clear hK K
          (try simp only [Act.put, List.setIfInBounds_toArray, List.set_cons_zero, List.set_cons_succ])
          refine wpE_done (by kernel_rfl) ?_ _
          go_wp2
          go_meet
          case rel => exact HFIN.out
      case rest =>
        obtain ⟨zd, x0, x1, A9, n9, c9, rfl, rfl, hzd, hd, hxd⟩ := hcut
        have HXE := Lib.hid (HXD.out.trans hxd)
        have HZD := Lib.hid hzd
        have HDD := Lib.hid hd
        clear hzd hd hxd hcur
        have k0 := cell_of HZD.out (i := 0) (u := .int .i64 x0) rfl
        have k1 := cell_of HZD.out (i := 1) (u := .int .i64 x1) rfl
        have k2 := cell_of HZD.out (i := 2) (u := .slice A9 n9 c9) rfl
        have a2 := (HQG.out _ HXE.out).1.1
        go_upto_region 11 with (fail)
        go_cut [86] (fun s86 wx => s86 = .bool false ∧ Ext wc wx)
        case first =>
          by_cases h0 : er2 = 0
          case neg =>
            have g0 : (er2 == 0) = false := by simpa using h0
            go_wp2_with fail
            go_meet
            case rel => exact ⟨rfl, Ext.refl _⟩
          subst h0
          obtain ⟨rfl, rfl, hrq⟩ := HDD.out rfl
          have HI3 := Lib.hid (show Calls Tryz.prog 19 #[.agg #[.int .i64 b.ms, .int .i64 b.ht, .slice A9 n9 c9], .int .i64 br, .int .i64 t, .slice S m cS] wc (fun e w' => ∃ A1 n1 c1, e = .returned (.slice A1 n1 c1) ∧ TbV w' A1 n1 c1 (itemsB br t ls (corP f j x 2147483647 tx)) 16000000 ∧ Ext wc w') from by
            have h9 := items_gen wc (corP f j x 2147483647 tx) 4 4 br t ls A9 S n9 c9 m cS _ _ (HOF.out.cor HXI.out 2147483647 HOT.out) (by omega) hrq (HRS.out wc (HX5.out.trans (HX8.out.trans HXE.out))) HM8.out HGS.out (HEV.out wc (HX5.out.trans (HX8.out.trans HXE.out)))
            unfold corP at h9 ⊢
            rw [HFM.out.1, HFM.out.2] at h9
            rw [HFM.out.1, HFM.out.2]
            exact h9)
          have HSUB := Lib.hid (show mrgP (itemsB br t ls f) (itemsB br t ls (corP f j x 2147483647 tx)) = itemsB br t ls (corP f j x 2147483647 tx) from items_sub fun k c hh => hit_cor HOF.out HXI.out HOT.out (HVN.out rfl) hh)
          clear hrq
          go_wp2_with fail
          refine (HI3.out).mono ?_
          rintro e wy ⟨A1, m1, d1, rfl, hT, hxy⟩
          have HT2 := Lib.hid hT
          have HXY := Lib.hid hxy
          clear hT hxy k0 k1 k2 a2
          go_wp2_with fail
          refine (within31_any wy Aa A1 na m1 ca d1 16000000 16000000 _ _ (HTA8.out.ext (HXE.out.trans HXY.out)) HT2.out (by omega) HSUB.out).mono ?_
          rintro e wz ⟨rfl, hxz⟩
          have HXZ := Lib.hid (HXY.out.trans hxz)
          clear hxz
          go_wp2_with fail
          go_meet
          case rel => exact ⟨rfl, HXZ.out⟩
        case rest =>
          obtain ⟨rfl, hxg⟩ := hcut
          have HXG := Lib.hid (HXE.out.trans hxg)
          clear hxg k0 k1 k2 a2
          go_wp2_with fail
          refine (HLV.out _ (HX1.out.trans (HX3.out.trans (HX5.out.trans (HX8.out.trans HXG.out))))).mono ?_
          rintro e wz ⟨rfl, hxz⟩
          have HXZ := Lib.hid (HX1.out.trans (HX3.out.trans (HX5.out.trans (HX8.out.trans (HXG.out.trans hxz)))))
          clear hxz
          go_wp2_with fail
          go_ret
          exact ⟨rfl, HXZ.out⟩
end Go.Proofs.YtdbnddmncbjobaaGreatDoor

/- The law IndexFrozen, in the order of the door's arguments. -/
namespace Go.Proofs.YtdbnddmncbjobaaGreatDoor
open Go Go.RowKit

theorem frozen31_all (A A' : Option Addr) (c c' : Nat) (l l' : List Int) (br tb : Int) (At : Option Addr) (ct : Nat) (lt : List Int) (which : Int) (w : World) (h : IL w A c l) (hl : l.length ≤ 9223372036854775807) (h' : IL w A' c' l') (hl' : l'.length ≤ 9223372036854775807) (_ : -9223372036854775808 ≤ br ∧ br ≤ 9223372036854775807)
    (htb : -9223372036854775808 ≤ tb ∧ tb ≤ 9223372036854775807) (ht9 : IL w At ct lt) (_ : lt.length ≤ 9223372036854775807) (hmy : -9223372036854775808 ≤ which ∧ which ≤ 9223372036854775807) (hL : EnvW w) :
    Calls Tryz.prog 9 #[.agg #[.slice A l.length c, .slice A' l'.length c', .int .i64 br, .int .i64 tb], .slice At lt.length ct, .int .i64 which] w fun e w' => e = .returned (.bool true) ∧ Ext w w' :=
  frozen31_law At ct lt A A' c c' l l' br tb which w h hl h' hl' ht9 htb hmy hL
end Go.Proofs.YtdbnddmncbjobaaGreatDoor
