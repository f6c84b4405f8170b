/- The examples of the chapter hold: walked. -/
import Derived.Test.YtdbnddmncbjobaaGreatDoorMj
import Derived.Test.YtdbnddmncbjobaaGreatDoorMi
import Derived.Test.YtdbnddmncbjobaaGreatDoorMf
import Derived.Test.YtdbnddmncbjobaaGreatDoorMg
import Derived.Test.YtdbnddmncbjobaaGreatDoorMh
import Derived.Test.YtdbnddmncbjobaaGreatDoorMc
namespace Go.Proofs.YtdbnddmncbjobaaGreatDoor
open Go Go.RowKit
attribute [local go_sem] Oper.semAt_some

set_option maxRecDepth 100000 in
theorem at31_any (l : Int) (w : World) : Calls Tryz.prog 64 #[.int .i64 l] w fun e w' => e = .returned (.agg #[.int .i64 3, .int .i64 1, .int .i64 0, .int .i64 l]) ∧ Ext w w' := by
  have hx : Ext w (w.alloc (.cells #[.int .i64 3, .int .i64 1, .int .i64 0, .int .i64 l] 69)) := (Ext.refl w).alloc _
  have HX := Lib.hid hx
  clear hx
  go_enter Tryz.func64, Tryz.ntmps64
  go_wp2_with fail
  obtain ⟨Y, hY⟩ : ∃ Y, w.alloc (.cells #[.int .i64 3, .int .i64 1, .int .i64 0, .int .i64 l] 69) = Y := ⟨_, rfl⟩
  have hB : Y.heap[w.heap.size]? = some (.cells #[.int .i64 3, .int .i64 1, .int .i64 0, .int .i64 l] 69 (0, 0)) := by rw [← hY]; exact heap_alloc_new _ _
  have h9 := HX.out
  rw [hY] at h9
  rw [hY]
  have q0 := cell_of hB (i := 0) rfl
  have q1 := cell_of hB (i := 1) rfl
  have q2 := cell_of hB (i := 2) rfl
  have q3 := cell_of hB (i := 3) rfl
  refine bodyPost_ret (v := .agg #[.int .i64 3, .int .i64 1, .int .i64 0, .int .i64 l]) (by simp [results, Tryz.results64, go_sem, q0, q1, q2, q3]) rfl ?_
  exact ⟨rfl, h9⟩
theorem ct_block {W : World} {P : Nat → Prop} {g : Nat} {T : TypeId} {cur : Array Value} (xs : List Ct) (hb : W.heap[g]? = some (.cells cur T (0, 0))) (hc : cur.toList = gcells ccf (xs.map ctC)) (hP : P g) : kCt.row W P (some ⟨g, 0, none⟩) xs.length xs :=
  row_block hb hc (by simp) hP fun i d x hd hx => by
    rw [List.getElem?_map, hx] at hd
    obtain rfl := Option.some.inj hd
    exact kCt_rep.2 rfl
def itC (x : ItV) : Cs kIt.sz := ⟨itCs x, rfl, itCs_one x⟩
theorem it2_block {W : World} {g : Nat} {T : TypeId} {k1 k2 : List UInt8} {A1 A2 : Option Addr} {n1 n2 : Nat} {l1 l2 : List Ct} (hb : W.heap[g]? = some (.cells #[.string ⟨k1.toArray⟩, .slice A1 n1 n1, .string ⟨k2.toArray⟩, .slice A2 n2 n2] T (0, 0))) (r1 : kCt.row W (fun _ => True) A1 n1 l1) (r2 : kCt.row W (fun _ => True) A2 n2 l2) : kIt.row W (fun _ => True) (some ⟨g, 0, none⟩) 2 [(k1, l1), (k2, l2)] :=
  row_block (k := kIt) (ds := [itC (k1, A1, n1, n1), itC (k2, A2, n2, n2)]) (xs := [(k1, l1), (k2, l2)]) hb rfl rfl trivial fun i d x hd hx => by
    match i with
    | 0 =>
      simp only [List.getElem?_cons_zero, Option.some.injEq] at hd hx
      subst hd hx
      exact kIt_rep.2 ⟨A1, n1, n1, rfl, Nat.le_refl _, r1⟩
    | 1 =>
      simp only [List.getElem?_cons_succ, List.getElem?_cons_zero, Option.some.injEq] at hd hx
      subst hd hx
      exact kIt_rep.2 ⟨A2, n2, n2, rfl, Nat.le_refl _, r2⟩
    | i + 2 => simp at hd
def seaC (x : Sea) : Cs kSea.sz := ⟨seaCs x, rfl, fun u hu => by simp only [seaCs, List.mem_cons, List.not_mem_nil, or_false] at hu; rcases hu with rfl | rfl | rfl | rfl | rfl <;> rfl⟩
theorem seaC_row {W : World} {g : Nat} (hb : W.heap[g]? = some (.cells #[.int .i64 0, .int .i64 0, .int .i64 1, .int .i64 2, .int .i64 4] 48 (0, 0))) : kSea.row W (fun _ => True) (some ⟨g, 0, none⟩) 1 [exSeal] :=
  row_block (k := kSea) (ds := [seaC exSeal]) (xs := [exSeal]) hb rfl rfl trivial fun i d x hd hx => by
    match i with
    | 0 =>
      simp only [List.getElem?_cons_zero, Option.some.injEq] at hd hx
      subst hd hx
      rfl
    | i + 1 => simp at hd
theorem ex_len : (hits 3 1 [] exB).length ≤ 10 ∧ (hits 3 1 [exSeal] exB).length ≤ 10 ∧ (hits 3 0 [] exB).length ≤ 10 := by decide +kernel
/-- Items at the example. -/
theorem ex_run (w : World) (hL : EnvW w) (A : Option Addr) (n c : Nat) (hr : kSe.row w (fun _ => True) A n exB.secs) (tb : Int) (ls : List Sea) (A2 : Option Addr) (n2 c2 : Nat) (hsl : kSea.row w (fun _ => True) A2 n2 ls) (hgr : ∀ s ∈ ls, 0 ≤ s.gr ∧ s.gr ≤ 15) (hn2 : n2 ≤ 10) (T : Tb) (hT : itemsB 3 tb ls exB = T) (hl : (hits 3 tb ls exB).length ≤ 10) :
    Calls Tryz.prog 19 #[.agg #[.int .i64 500, .int .i64 10, .slice A n c], .int .i64 3, .int .i64 tb, .slice A2 n2 c2] w fun e w' => ∃ A1 n1 c1, e = .returned (.slice A1 n1 c1) ∧ TbV w' A1 n1 c1 T 10 ∧ Ext w w' := by
  refine (iitems_any (fun _ => True) (fun _ => True) w exB 1 1 3 tb ls A A2 n c n2 c2 exB_ok (by omega) (by omega) (by omega) hr hsl (by omega) hgr hL).mono ?_
  rintro e w' ⟨A1, n1, c1, rfl, h1, h2⟩
  refine ⟨A1, n1, c1, rfl, ?_, h2⟩
  rw [← hT]
  exact TbV.mono h1 hl
set_option maxHeartbeats 8000000 in
set_option maxRecDepth 100000 in
theorem lives31_any (w : World) (hL : EnvW w) : Calls Tryz.prog 21 #[] w fun e w' => e = .returned (.bool true) ∧ Ext w w' := by
  have HL := Lib.hid hL
  have HEX := Lib.hid (example31_any w hL)
  clear hL
  go_enter Tryz.func21, Tryz.ntmps21
  go_wp2_with fail
  refine (HEX.out).mono ?_
  rintro e wa ⟨A, n, c, rfl, hnc, hr, hxa⟩
  clear HEX
  obtain ⟨z1, hz1⟩ : ∃ z1, wa.heap.size = z1 := ⟨_, rfl⟩
  obtain ⟨w1, hw1⟩ : ∃ w1, wa.alloc (.cells #[.int .i64 500, .int .i64 10, .slice A n c] 27) = w1 := ⟨_, rfl⟩
  have hxw1 : Ext wa w1 := by rw [← hw1]; exact (Ext.refl wa).alloc _
  have hbw1 : w1.heap[z1]? = some (.cells #[.int .i64 500, .int .i64 10, .slice A n c] 27 (0, 0)) := by rw [← hw1, ← hz1]; exact heap_alloc_new _ _
  have HX1 := Lib.hid (hxa.trans hxw1)
  have HB1 := Lib.hid hbw1
  have HR1 := Lib.hid (Lay.row_ext hr hxw1)
  have HZC := Lib.hid (fun X (hX : Ext w1 X) => (show X.cell? ⟨z1, 0, none⟩ = some (.int .i64 500) ∧ X.cell? ⟨z1, 1, none⟩ = some (.int .i64 10) ∧ X.cell? ⟨z1, 2, none⟩ = some (.slice A n c) from
    have h9 := (hX.block _ (lt_of_block hbw1)).trans hbw1
    ⟨cell_of h9 (i := 0) rfl, cell_of h9 (i := 1) rfl, cell_of h9 (i := 2) rfl⟩))
  have HRUN := Lib.hid (fun X (hX : Ext w1 X) => ex_run X (HL.out.ext (HX1.out.trans hX)) A n c (Lay.row_ext HR1.out hX))
  obtain ⟨d0, d1, d2⟩ := HZC.out w1 (Ext.refl _)
  clear hxa hxw1 hbw1 hr
  go_wp2_with fail
  refine (HRUN.out w1 (Ext.refl _) 1 [] none 0 0 (Lay.row_nil _ _ _) (fun s hs => by cases hs) (by omega) exWant ex_items.1 ex_len.1).mono ?_
  rintro e w2 ⟨A1, n1, c1, rfl, hT1, hx2⟩
  have HT1 := Lib.hid hT1
  have HX2 := Lib.hid hx2
  clear hT1 hx2 d0 d1 d2 hz1 hw1
  obtain ⟨d0, d1, d2⟩ := HZC.out w2 HX2.out
  obtain ⟨g1, hg1⟩ : ∃ g1, w2.heap.size = g1 := ⟨_, rfl⟩
  obtain ⟨w3, hw3⟩ : ∃ w3, w2.alloc (.cells #[.int .i64 0, .int .i64 0, .int .i64 1, .int .i64 2, .int .i64 4] 48) = w3 := ⟨_, rfl⟩
  have hxw3 : Ext w2 w3 := by rw [← hw3]; exact (Ext.refl w2).alloc _
  have hbw3 : w3.heap[g1]? = some (.cells #[.int .i64 0, .int .i64 0, .int .i64 1, .int .i64 2, .int .i64 4] 48 (0, 0)) := by rw [← hw3, ← hg1]; exact heap_alloc_new _ _
  have HX3 := Lib.hid (HX2.out.trans hxw3)
  have HS3 := Lib.hid (seaC_row hbw3)
  have HXW3 := Lib.hid hxw3
  clear hxw3 hbw3
  go_wp2_with fail
  refine (HRUN.out w3 HX3.out 1 [exSeal] (some ⟨g1, 0, none⟩) 1 1 HS3.out (fun s hs => by simp only [List.mem_singleton] at hs; subst hs; decide) (by omega) exSealed ex_items.2.1 ex_len.2.1).mono ?_
  rintro e w4 ⟨A2, n2, c2, rfl, hT2, hx4⟩
  have HT2 := Lib.hid hT2
  have HX24 := Lib.hid (HXW3.out.trans hx4)
  clear hT2 hx4 d0 d1 d2 hg1 hw3
  go_wp2_with fail
  refine (ifind_any w4 exWant [106, 111, 110, 101, 115] A1 n1 c1 10 (HT1.out.ext HX24.out) (by omega)).mono ?_
  rintro e w5 ⟨A3, n3, c3, rfl, hnc3, hr3, hx5⟩
  rw [show findP exWant [106, 111, 110, 101, 115] = some [exPl 2] from ex_find.1]
  rw [show plc exWant [106, 111, 110, 101, 115] = [exPl 2] by unfold plc; rw [ex_find.1]; rfl] at hr3
  have HR3 := Lib.hid hr3
  have HX45 := Lib.hid hx5
  clear hr3 hx5
  simp only [Option.isSome_some]
  go_wp2_with fail
  refine (ifind_any w5 exWant [74, 111, 110, 101, 115] A1 n1 c1 10 (HT1.out.ext (HX24.out.trans HX45.out)) (by omega)).mono ?_
  rintro e w6 ⟨A4, n4, c4, rfl, hnc4, hr4, hx6⟩
  rw [show findP exWant [74, 111, 110, 101, 115] = none from ex_find.2.1]
  have HX56 := Lib.hid hx6
  clear hr4 hx6 hnc4
  simp only [Option.isSome_none]
  go_wp2_with fail
  refine (at31_any 2 w6).mono ?_
  rintro e wb ⟨rfl, hxb⟩
  obtain ⟨g2, hg2⟩ : ∃ g2, wb.heap.size = g2 := ⟨_, rfl⟩
  obtain ⟨w7, hw7⟩ : ∃ w7, wb.alloc (.cells #[.int .i64 3, .int .i64 1, .int .i64 0, .int .i64 2] 69) = w7 := ⟨_, rfl⟩
  have hxw7 : Ext wb w7 := by rw [← hw7]; exact (Ext.refl wb).alloc _
  have hbw7 : w7.heap[g2]? = some (.cells #[.int .i64 3, .int .i64 1, .int .i64 0, .int .i64 2] 69 (0, 0)) := by rw [← hw7, ← hg2]; exact heap_alloc_new _ _
  have HX67 := Lib.hid (hxb.trans hxw7)
  have HG2 := Lib.hid hbw7
  clear hxb hxw7 hbw7
  go_wp2_with fail
  refine (at31_any 1 w7).mono ?_
  rintro e wc ⟨rfl, hxc⟩
  clear hg2 hw7
  go_wp2_with fail
  refine (at31_any 2 wc).mono ?_
  rintro e wd ⟨rfl, hxd⟩
  go_wp2_with fail
  refine (at31_any 3 wd).mono ?_
  rintro e we ⟨rfl, hxe⟩
  obtain ⟨g3, hg3⟩ : ∃ g3, we.heap.size = g3 := ⟨_, rfl⟩
  obtain ⟨w8, hw8⟩ : ∃ w8, we.alloc (.cells #[.int .i64 3, .int .i64 1, .int .i64 0, .int .i64 1, .int .i64 3, .int .i64 1, .int .i64 0, .int .i64 2, .int .i64 3, .int .i64 1, .int .i64 0, .int .i64 3] 69) = w8 := ⟨_, rfl⟩
  have hxw8 : Ext we w8 := by rw [← hw8]; exact (Ext.refl we).alloc _
  have hbw8 : w8.heap[g3]? = some (.cells #[.int .i64 3, .int .i64 1, .int .i64 0, .int .i64 1, .int .i64 3, .int .i64 1, .int .i64 0, .int .i64 2, .int .i64 3, .int .i64 1, .int .i64 0, .int .i64 3] 69 (0, 0)) := by rw [← hw8, ← hg3]; exact heap_alloc_new _ _
  obtain ⟨g4, hg4⟩ : ∃ g4, w8.heap.size = g4 := ⟨_, rfl⟩
  obtain ⟨w9, hw9⟩ : ∃ w9, w8.alloc (.cells #[.string ⟨#[106, 111, 110, 101, 115]⟩, .slice (some ⟨g2, 0, none⟩) 1 1, .string ⟨#[115, 109, 105, 116, 104]⟩, .slice (some ⟨g3, 0, none⟩) 3 3] 99) = w9 := ⟨_, rfl⟩
  have hxw9 : Ext w8 w9 := by rw [← hw9]; exact (Ext.refl w8).alloc _
  have hbw9 : w9.heap[g4]? = some (.cells #[.string ⟨#[106, 111, 110, 101, 115]⟩, .slice (some ⟨g2, 0, none⟩) 1 1, .string ⟨#[115, 109, 105, 116, 104]⟩, .slice (some ⟨g3, 0, none⟩) 3 3] 99 (0, 0)) := by rw [← hw9, ← hg4]; exact heap_alloc_new _ _
  have hx79 : Ext w7 w9 := hxc.trans (hxd.trans (hxe.trans (hxw8.trans hxw9)))
  have HX79 := Lib.hid hx79
  have HW9 := Lib.hid (show kIt.row w9 (fun _ => True) (some ⟨g4, 0, none⟩) 2 exWant from it2_block hbw9 (ct_block (W := w9) [exPl 2] ((hx79.block _ (lt_of_block HG2.out)).trans HG2.out) rfl trivial) (ct_block (W := w9) [exPl 1, exPl 2, exPl 3] ((hxw9.block _ (lt_of_block hbw8)).trans hbw8) rfl trivial))
  clear hxc hxd hxe hxw8 hxw9 hbw8 hbw9 hx79
  go_wp2_with fail
  refine (at31_any 2 w9).mono ?_
  rintro e wf ⟨rfl, hxf⟩
  clear hg3 hw8 hg4 hw9
  obtain ⟨g5, hg5⟩ : ∃ g5, wf.heap.size = g5 := ⟨_, rfl⟩
  obtain ⟨w10, hw10⟩ : ∃ w10, wf.alloc (.cells #[.int .i64 3, .int .i64 1, .int .i64 0, .int .i64 2] 69) = w10 := ⟨_, rfl⟩
  have hxw10 : Ext wf w10 := by rw [← hw10]; exact (Ext.refl wf).alloc _
  have hbw10 : w10.heap[g5]? = some (.cells #[.int .i64 3, .int .i64 1, .int .i64 0, .int .i64 2] 69 (0, 0)) := by rw [← hw10, ← hg5]; exact heap_alloc_new _ _
  have HX910 := Lib.hid (hxf.trans hxw10)
  have HG5 := Lib.hid hbw10
  clear hxf hxw10 hbw10
  go_wp2_with fail
  refine (at31_any 2 w10).mono ?_
  rintro e wg ⟨rfl, hxg⟩
  clear hg5 hw10
  go_wp2_with fail
  refine (at31_any 3 wg).mono ?_
  rintro e wh ⟨rfl, hxh⟩
  obtain ⟨g6, hg6⟩ : ∃ g6, wh.heap.size = g6 := ⟨_, rfl⟩
  obtain ⟨w11, hw11⟩ : ∃ w11, wh.alloc (.cells #[.int .i64 3, .int .i64 1, .int .i64 0, .int .i64 2, .int .i64 3, .int .i64 1, .int .i64 0, .int .i64 3] 69) = w11 := ⟨_, rfl⟩
  have hxw11 : Ext wh w11 := by rw [← hw11]; exact (Ext.refl wh).alloc _
  have hbw11 : w11.heap[g6]? = some (.cells #[.int .i64 3, .int .i64 1, .int .i64 0, .int .i64 2, .int .i64 3, .int .i64 1, .int .i64 0, .int .i64 3] 69 (0, 0)) := by rw [← hw11, ← hg6]; exact heap_alloc_new _ _
  obtain ⟨g7, hg7⟩ : ∃ g7, w11.heap.size = g7 := ⟨_, rfl⟩
  obtain ⟨w12, hw12⟩ : ∃ w12, w11.alloc (.cells #[.string ⟨#[106, 111, 110, 101, 115]⟩, .slice (some ⟨g5, 0, none⟩) 1 1, .string ⟨#[115, 109, 105, 116, 104]⟩, .slice (some ⟨g6, 0, none⟩) 2 2] 99) = w12 := ⟨_, rfl⟩
  have hxw12 : Ext w11 w12 := by rw [← hw12]; exact (Ext.refl w11).alloc _
  have hbw12 : w12.heap[g7]? = some (.cells #[.string ⟨#[106, 111, 110, 101, 115]⟩, .slice (some ⟨g5, 0, none⟩) 1 1, .string ⟨#[115, 109, 105, 116, 104]⟩, .slice (some ⟨g6, 0, none⟩) 2 2] 99 (0, 0)) := by rw [← hw12, ← hg7]; exact heap_alloc_new _ _
  have hx1012 : Ext w10 w12 := hxg.trans (hxh.trans (hxw11.trans hxw12))
  have HW12 := Lib.hid (show kIt.row w12 (fun _ => True) (some ⟨g7, 0, none⟩) 2 exSealed from it2_block hbw12 (ct_block (W := w12) [exPl 2] ((hx1012.block _ (lt_of_block HG5.out)).trans HG5.out) rfl trivial) (ct_block (W := w12) [exPl 2, exPl 3] ((hxw12.block _ (lt_of_block hbw11)).trans hbw11) rfl trivial))
  have HX912 := Lib.hid (HX910.out.trans hx1012)
  have HX412 := Lib.hid (HX45.out.trans (HX56.out.trans (HX67.out.trans (HX79.out.trans HX912.out))))
  have HX212 := Lib.hid (HX24.out.trans HX412.out)
  clear hxg hxh hxw11 hxw12 hbw11 hbw12 hx1012
  have hmx : ∀ x ∈ exWant ++ exWant, x.2.length ≤ 100000000 := by decide
  have hms : ∀ x ∈ exSealed ++ exSealed, x.2.length ≤ 100000000 := by decide
  have HM1 := Lib.hid hmx
  have HM2 := Lib.hid hms
  clear hmx hms
  go_wp2_with fail
  refine (same_any _ _ w12 exWant exWant HM1.out A1 (some ⟨g4, 0, none⟩) n1 2 c1 2 (HT1.out.ext HX212.out).row (Lay.row_ext HW9.out HX912.out) (by have := HT1.out.n; omega) (by omega)).mono ?_
  rintro e wj ⟨rfl, qj, rfl⟩
  rw [show decide (exWant = exWant) = true from decide_eq_true rfl]
  clear hg6 hw11 hg7 hw12
  go_wp2_with fail
  refine (same_any _ _ (w12.drewN qj) exSealed exSealed HM2.out A2 (some ⟨g7, 0, none⟩) n2 2 c2 2 ((HT2.out.ext HX412.out).ext ((Ext.refl w12).drewN qj)).row (Lay.row_ext HW12.out ((Ext.refl w12).drewN qj)) (by have := HT2.out.n; omega) (by omega)).mono ?_
  rintro e wk ⟨rfl, qk, rfl⟩
  rw [show decide (exSealed = exSealed) = true from decide_eq_true rfl]
  have HXK := Lib.hid (show Ext w12 ((w12.drewN qj).drewN qk) from ((Ext.refl w12).drewN qj).drewN qk)
  obtain ⟨w13, hw13⟩ : ∃ w13, (w12.drewN qj).drewN qk = w13 := ⟨_, rfl⟩
  rw [hw13] at HXK ⊢
  clear hw13
  go_wp2_with fail
  refine (at31_any 2 w13).mono ?_
  rintro e wl ⟨rfl, hxl⟩
  obtain ⟨g8, hg8⟩ : ∃ g8, wl.heap.size = g8 := ⟨_, rfl⟩
  obtain ⟨w14, hw14⟩ : ∃ w14, wl.alloc (.cells #[.int .i64 3, .int .i64 1, .int .i64 0, .int .i64 2] 69) = w14 := ⟨_, rfl⟩
  have hxw14 : Ext wl w14 := by rw [← hw14]; exact (Ext.refl wl).alloc _
  have hbw14 : w14.heap[g8]? = some (.cells #[.int .i64 3, .int .i64 1, .int .i64 0, .int .i64 2] 69 (0, 0)) := by rw [← hw14, ← hg8]; exact heap_alloc_new _ _
  have HX14 := Lib.hid (HXK.out.trans (hxl.trans hxw14))
  have HR14 := Lib.hid (show kCt.row w14 (fun _ => True) (some ⟨g8, 0, none⟩) 1 [exPl 2] from ct_block (W := w14) [exPl 2] hbw14 rfl trivial)
  have HR3' := Lib.hid (Lay.row_ext HR3.out (HX56.out.trans (HX67.out.trans (HX79.out.trans (HX912.out.trans HX14.out)))))
  clear hxl hxw14 hbw14
  go_wp2_with fail
  refine (samec_any _ _ w14 [exPl 2] [exPl 2] A3 (some ⟨g8, 0, none⟩) n3 1 c3 1 HR3'.out HR14.out (by have := Lay.row_len HR3'.out; simp at this; omega) (by omega)).mono ?_
  rintro e wm ⟨rfl, qm, rfl⟩
  rw [show decide ([exPl 2] = [exPl 2]) = true from decide_eq_true rfl]
  clear hg8 hw14
  have HX15 := Lib.hid (HX212.out.trans (HX14.out.drewN qm))
  have HX415 := Lib.hid (HX412.out.trans (HX14.out.drewN qm))
  have HX915 := Lib.hid (HX912.out.trans (HX14.out.drewN qm))
  obtain ⟨w15, hw15⟩ : ∃ w15, w14.drewN qm = w15 := ⟨_, rfl⟩
  rw [hw15] at HX15 HX415 HX915 ⊢
  clear hw15
  obtain ⟨d0, d1, d2⟩ := HZC.out w15 (HX2.out.trans HX15.out)
  go_wp2_with fail
  refine (HRUN.out w15 (HX2.out.trans HX15.out) 0 [] none 0 0 (Lay.row_nil _ _ _) (fun s hs => by cases hs) (by omega) [] ex_items.2.2 ex_len.2.2).mono ?_
  rintro e w16 ⟨A5, n5, c5, rfl, hT5, hx16⟩
  obtain rfl : n5 = 0 := hT5.n.1
  have HX16 := Lib.hid hx16
  clear hT5 hx16 d0 d1 d2
  go_wp2_with fail
  refine (imerge_any w16 A1 A2 n1 n2 c1 c2 10 10 exWant exSealed (HT1.out.ext (HX15.out.trans HX16.out)) (HT2.out.ext (HX415.out.trans HX16.out)) (by omega)).mono ?_
  rintro e w17 ⟨A6, n6, c6, rfl, hT6, hx17⟩
  rw [ex_find.2.2] at hT6
  have HT6 := Lib.hid hT6
  have HX17 := Lib.hid (HX16.out.trans hx17)
  clear hT6 hx17
  go_wp2_with fail
  refine (same_any _ _ w17 exWant exWant HM1.out A6 (some ⟨g4, 0, none⟩) n6 2 c6 2 HT6.out.row (Lay.row_ext HW9.out (HX915.out.trans HX17.out)) (by have := HT6.out.n; omega) (by omega)).mono ?_
  rintro e wn ⟨rfl, qn, rfl⟩
  rw [show decide (exWant = exWant) = true from decide_eq_true rfl]
  go_wp2_with fail
  go_ret
  exact ⟨rfl, HX1.out.trans (HX2.out.trans (HX15.out.trans (HX17.out.drewN qn)))⟩
end Go.Proofs.YtdbnddmncbjobaaGreatDoor

/- The reference's Regular at a table: walked. -/
namespace Go.Proofs.YtdbnddmncbjobaaGreatDoor
open Go Go.RowKit
attribute [local go_sem] Oper.semAt_some

end Go.Proofs.YtdbnddmncbjobaaGreatDoor

/- The law IndexMerges: walked. -/
namespace Go.Proofs.YtdbnddmncbjobaaGreatDoor
open Go Go.RowKit
attribute [local go_sem] Oper.semAt_some

theorem TbV.big {W : World} {A : Option Addr} {n c : Nat} {T : Tb} {M : Nat} (h : TbV W A n c T M) (hM : M ≤ 100000000) : n ≤ 100000000 ∧ ∀ x ∈ T, x.2.length ≤ 100000000 :=
  ⟨by have := h.n.2.1; omega, fun x hx => by have := h.n.2.2 x hx; omega⟩
/-- Same at two tables in memory. -/
theorem same_tb {w : World} {A A' : Option Addr} {n n' c c' : Nat} {S T : Tb} {M M' : Nat} (h : TbV w A n c S M) (h' : TbV w A' n' c' T M') (hM : M ≤ 100000000) (hM' : M' ≤ 100000000) (r : Bool) (hr : decide (S = T) = r) :
    Calls Tryz.prog 18 #[.slice A n c, .slice A' n' c'] w fun e w' => e = .returned (.bool r) ∧ Ext w w' := by
  refine (same_any _ _ w S T (fun x hx => ?_) A A' n n' c c' h.row h'.row (h.big hM).1 (h'.big hM').1).mono ?_
  · rcases List.mem_append.1 hx with hx | hx
    · exact (h.big hM).2 x hx
    · exact (h'.big hM').2 x hx
  · rintro e w' ⟨rfl, q, rfl⟩
    exact ⟨by rw [hr], (Ext.refl w).drewN q⟩
end Go.Proofs.YtdbnddmncbjobaaGreatDoor

/- Hits of books that grow, of words and of places, in plain Lean. -/
namespace Go.Proofs.YtdbnddmncbjobaaGreatDoor

end Go.Proofs.YtdbnddmncbjobaaGreatDoor

/- The law IndexSeals: walked (printed by genzd.py). -/
namespace Go.Proofs.YtdbnddmncbjobaaGreatDoor
open Go Go.RowKit
attribute [local go_sem] Oper.semAt_some

/-- Items at a book that was made. -/
theorem items_mk (w : World) (b : Bk) (br tb : Int) (ls : List Sea) (A A2 : Option Addr) (N c n2 c2 : Nat) (P Q : Nat → Prop) (hb : OkB b 4 3) (hr : kSe.row w P A N b.secs) (hs : kSea.row w Q A2 n2 ls) (hn : n2 ≤ 1000000) (hg : ∀ s ∈ ls, OkSea s) (hL : EnvW w) :
    Calls Tryz.prog 19 #[.agg #[.int .i64 b.ms, .int .i64 b.ht, .slice A N c], .int .i64 br, .int .i64 tb, .slice A2 n2 c2] w fun e w' => ∃ A1 n1 c1, e = .returned (.slice A1 n1 c1) ∧ TbV w' A1 n1 c1 (itemsB br tb ls b) 16000000 ∧ Ext w w' := by
  refine (iitems_any P Q w b 4 3 br tb ls A A2 N c n2 c2 hb (by omega) (by omega) (by omega) hr hs hn hg hL).mono ?_
  rintro e w' ⟨A1, n1, c1, rfl, h1, h2⟩
  exact ⟨A1, n1, c1, rfl, TbV.mono h1 (hits_len hb (by omega) br tb ls), h2⟩
end Go.Proofs.YtdbnddmncbjobaaGreatDoor

/- Sealed words with other keys: the pages and the tables are the same, in plain Lean. -/
namespace Go.Proofs.YtdbnddmncbjobaaGreatDoor

def hidW (ls : List Sea) (e v : Int) (key : List UInt8) (n : Int) (w : Wd) : Wd := if seald ls e v n = true then { w with key := key, tb := 1 - w.tb } else w
def hidP (ls : List Sea) (e v : Int) (key : List UInt8) (n : Int) (p : List Wd) : List Wd := p.mapIdx fun i w => hidW ls e v key (n + (i : Nat)) w
def hidPs (ls : List Sea) (e v : Int) (key : List UInt8) : Int → List (List Wd) → List (List Wd)
  | _, [] => []
  | n, p :: ps => hidP ls e v key n p :: hidPs ls e v key (n + (p.length : Nat)) ps
def hidT (ls : List Sea) (e v : Int) (key : List UInt8) (t : Tx) : Tx := ⟨hidPs ls e v key 0 t.paras, hidPs ls e v key (t.paras.flatten.length : Nat) t.notes⟩
def hidS (ls : List Sea) (key : List UInt8) (x : Se) : Se := { x with texts := List.zipWith (fun v t => hidT ls x.ent v key t) x.vers x.texts }
def hidB (ls : List Sea) (key : List UInt8) (b : Bk) : Bk := { b with secs := b.secs.map (hidS ls key) }
/-- What the pages hang on. -/
def skW (w : Wd) : List UInt8 × Int := (w.s, w.nt)
def skP (ps : List (List Wd)) : List (List (List UInt8 × Int)) := ps.map (List.map skW)
theorem hidW_sk (ls : List Sea) (e v : Int) (key : List UInt8) (n : Int) (w : Wd) : skW (hidW ls e v key n w) = skW w := by unfold hidW skW; split <;> rfl
theorem hidP_sk (ls : List Sea) (e v : Int) (key : List UInt8) (n : Int) (p : List Wd) : (hidP ls e v key n p).map skW = p.map skW := by
  apply List.ext_getElem?
  intro i
  simp only [hidP, List.getElem?_map, List.getElem?_mapIdx]
  cases p[i]? with
  | none => rfl
  | some w => simp [hidW_sk]
theorem hidP_len (ls : List Sea) (e v : Int) (key : List UInt8) (n : Int) (p : List Wd) : (hidP ls e v key n p).length = p.length := by simp [hidP]
theorem hidPs_sk (ls : List Sea) (e v : Int) (key : List UInt8) : ∀ (ps : List (List Wd)) (n : Int), skP (hidPs ls e v key n ps) = skP ps
  | [], _ => rfl
  | p :: ps, n => by
    have ih := hidPs_sk ls e v key ps (n + (p.length : Nat))
    simp only [skP, hidPs, List.map_cons] at ih ⊢
    rw [ih, hidP_sk]
theorem hidPs_flat (ls : List Sea) (e v : Int) (key : List UInt8) : ∀ (ps : List (List Wd)) (n : Int), (hidPs ls e v key n ps).flatten = hidP ls e v key n ps.flatten
  | [], _ => rfl
  | p :: ps, n => by
    simp only [hidPs, List.flatten_cons]
    rw [hidPs_flat ls e v key ps]
    simp only [hidP]
    rw [List.mapIdx_append]
    congr 1
    congr 1
    funext i w
    congr 1
    simp only [Int.natCast_add]
    omega
theorem hid_word (ls : List Sea) (e v : Int) (key : List UInt8) (t : Tx) (n : Int) : wordT (hidT ls e v key t) n = (wordT t n).map (hidW ls e v key n) := by
  have h : ((hidT ls e v key t).paras ++ (hidT ls e v key t).notes).flatten = hidP ls e v key 0 (t.paras ++ t.notes).flatten := by
    simp only [hidT]
    rw [List.flatten_append, List.flatten_append, hidPs_flat, hidPs_flat]
    simp only [hidP]
    rw [List.mapIdx_append]
    congr 1
    congr 1
    funext i w
    congr 1
    simp only [Int.natCast_add]
    omega
  unfold wordT
  rw [h]
  split
  · rfl
  · next h0 =>
    simp only [hidP, List.getElem?_mapIdx]
    cases (t.paras ++ t.notes).flatten[n.toNat]? with
    | none => rfl
    | some w =>
      simp only [Option.map_some]
      rw [show (0 : Int) + (n.toNat : Nat) = n by omega]
theorem sk_len {ps qs : List (List Wd)} (h : skP ps = skP qs) : ps.length = qs.length := by simpa [skP] using congrArg List.length h
/-- Lines hang on what is kept alone. -/
theorem map_wid {p q : List Wd} (h : p.map skW = q.map skW) : (p.map fun w => wid w.s) = q.map fun w => wid w.s := by
  have := congrArg (List.map fun x : List UInt8 × Int => wid x.1) h
  simpa [List.map_map, Function.comp_def, skW] using this
theorem map_nts {p q : List Wd} (h : p.map skW = q.map skW) : (p.filterMap fun w => if w.nt ≠ 0 then some (w.nt - 1) else none) = q.filterMap fun w => if w.nt ≠ 0 then some (w.nt - 1) else none := by
  have := congrArg (List.filterMap fun x : List UInt8 × Int => if x.2 ≠ 0 then some (x.2 - 1) else none) h
  rw [List.filterMap_map, List.filterMap_map] at this
  exact this
theorem linesGo_sk (m : Int) : ∀ (ls : List Nat) (p q : List Wd) (n : Int), p.map skW = q.map skW → linesGo m p ls n = linesGo m q ls n
  | [], p, q, n, _ => by cases p <;> cases q <;> rfl
  | l :: ls, p, q, n, h => by
    have h1 : (p.take l).map skW = (q.take l).map skW := by rw [List.map_take, List.map_take, h]
    have h2 : (p.drop l).map skW = (q.drop l).map skW := by rw [List.map_drop, List.map_drop, h]
    simp only [linesGo]
    rw [map_wid h1, map_nts h1, linesGo_sk m ls _ _ _ h2]
theorem setP_sk {p q : List Wd} (h : p.map skW = q.map skW) (n m : Int) : setP p n m = setP q n m := by
  unfold setP; rw [map_wid h, linesGo_sk m _ _ _ _ h]
theorem setsP_sk (m : Int) : ∀ (ps qs : List (List Wd)) (n : Int), skP ps = skP qs → setsP m ps n = setsP m qs n
  | [], [], _, _ => rfl
  | [], _ :: _, _, h => by simp [skP] at h
  | _ :: _, [], _, h => by simp [skP] at h
  | p :: ps, q :: qs, n, h => by
    simp only [skP, List.map_cons, List.cons.injEq] at h
    have hl : p.length = q.length := by simpa using congrArg List.length h.1
    simp only [setsP]
    rw [setP_sk h.1, hl, setsP_sk m ps qs _ h.2]
theorem sk_lens {ps qs : List (List Wd)} (h : skP ps = skP qs) : ps.map List.length = qs.map List.length := by
  have := congrArg (List.map List.length) h
  simpa [skP, List.map_map, Function.comp_def] using this
theorem textP_sk {t u : Tx} (h1 : skP t.paras = skP u.paras) (h2 : skP t.notes = skP u.notes) (c1 : chkT t = 0) (c2 : chkT u = 0) (m h : Int) : textP t m h = textP u m h := by
  have : linesT t m = linesT u m := by
    unfold linesT
    rw [c1, c2, setsP_sk m _ _ _ h1, sk_lens h1, setsP_sk m _ _ _ h2]
  unfold textP
  rw [this]
/-- A text whose sealed words have another key. -/
theorem hid_word_ok {ls : List Sea} {e v : Int} {key : List UInt8} (hk : key = [] ∨ (validW key = true ∧ key.length ≤ 40)) {n : Int} {w : Wd} (h : OkW w) : OkW (hidW ls e v key n w) ∧ (hidW ls e v key n w).nt = w.nt := by
  obtain ⟨h1, h2, h3, h4, h5⟩ := h
  unfold hidW
  split
  · refine ⟨⟨h1, ?_, ?_, h4, ?_⟩, rfl⟩
    · exact hk.imp id (·.1)
    · show (1 - w.tb = 0 ∨ 1 - w.tb = 1); omega
    · show key.length ≤ 40
      rcases hk with rfl | hk
      · exact Nat.zero_le _
      · exact hk.2
  · exact ⟨⟨h1, h2, h3, h4, h5⟩, rfl⟩
theorem hidPs_mem {ls : List Sea} {e v : Int} {key : List UInt8} : ∀ {ps : List (List Wd)} {n : Int} {q : List Wd}, q ∈ hidPs ls e v key n ps → ∃ p ∈ ps, q.length = p.length ∧ ∀ w ∈ q, ∃ u ∈ p, ∃ i, w = hidW ls e v key i u
  | [], _, _, h => nomatch h
  | p :: ps, n, q, h => by
    simp only [hidPs] at h
    rcases List.mem_cons.1 h with rfl | h
    · refine ⟨p, .head _, hidP_len _ _ _ _ _ _, fun w hw => ?_⟩
      obtain ⟨i, hi⟩ := List.getElem?_of_mem hw
      simp only [hidP, List.getElem?_mapIdx] at hi
      obtain ⟨u, hu, rfl⟩ := Option.map_eq_some_iff.1 hi
      exact ⟨u, List.mem_of_getElem? hu, _, rfl⟩
    · obtain ⟨p', hp', g⟩ := hidPs_mem h
      exact ⟨p', .tail _ hp', g⟩
theorem refs_sk {p q : List Wd} (h : p.map skW = q.map skW) : refs p = refs q := by
  have : ∀ p : List Wd, refs p = ((p.map skW).filter fun x => decide (x.2 ≠ 0)).map (·.2) := fun p => by
    induction p with
    | nil => rfl
    | cons a p ih =>
      unfold refs at ih ⊢
      simp only [List.map_cons, List.filter_cons]
      have e : (skW a).2 = a.nt := rfl
      rw [e]
      split
      · simp only [List.map_cons, ih]; rfl
      · exact ih
  rw [this, this, h]
theorem hidPs_len (ls : List Sea) (e v : Int) (key : List UInt8) (ps : List (List Wd)) (n : Int) : (hidPs ls e v key n ps).length = ps.length := sk_len (hidPs_sk ls e v key ps n)
theorem hid_ok {ls : List Sea} {e v : Int} {key : List UInt8} (hk : key = [] ∨ (validW key = true ∧ key.length ≤ 40)) {t : Tx} (h : OkT t) : OkT (hidT ls e v key t) := by
  refine ⟨⟨fun p hp => ?_, fun p hp w hw => ?_⟩, ?_, ?_, fun p hp => ?_, fun p hp w hw => ?_, ?_⟩
  · obtain ⟨q, hq, hl, _⟩ := hidPs_mem hp
    rw [hl]; exact h.par.len q hq
  · obtain ⟨q, hq, _, hw'⟩ := hidPs_mem hp
    obtain ⟨u, hu, i, rfl⟩ := hw' w hw
    exact (hid_word_ok hk (h.par.ok q hq u hu)).1
  · simp only [hidT, hidPs_len]; exact h.np
  · simp only [hidT, hidPs_len]; exact h.nn
  · obtain ⟨q, hq, hl, _⟩ := hidPs_mem hp
    rw [hl]; exact h.len q hq
  · obtain ⟨q, hq, _, hw'⟩ := hidPs_mem hp
    obtain ⟨u, hu, i, rfl⟩ := hw' w hw
    have h9 := h.ok q hq u hu
    have := hid_word_ok (ls := ls) (e := e) (v := v) (n := i) hk h9.1
    exact ⟨this.1, this.2.trans h9.2⟩
  · simp only [hidT, hidPs_len]
    rw [← h.rf]
    apply refs_sk
    rw [hidPs_flat, hidP_sk]
theorem hid_sec {ls : List Sea} {key : List UInt8} (hk : key = [] ∨ (validW key = true ∧ key.length ≤ 40)) {x : Se} (hl : x.vers.length = x.texts.length) (hx : ∀ t ∈ x.texts, OkT t) : (hidS ls key x).texts.length = x.texts.length ∧ ∀ t ∈ (hidS ls key x).texts, OkT t := by
  refine ⟨by simp [hidS, hl], fun t ht => ?_⟩
  simp only [hidS] at ht
  obtain ⟨i, hi⟩ := List.getElem?_of_mem ht
  rw [List.getElem?_zipWith_eq_some] at hi
  obtain ⟨v, u, _, h2, rfl⟩ := hi
  exact hid_ok hk (hx u (List.mem_of_getElem? h2))
theorem OkB.hid {b : Bk} {N V : Nat} (h : OkB b N V) (ls : List Sea) {key : List UInt8} (hk : key = [] ∨ (validW key = true ∧ key.length ≤ 40)) : OkB (hidB ls key b) N V := by
  refine ⟨h.m0, h.m1, h.h0, h.h1, by simpa [hidB] using h.n, fun x hx => ?_, fun x hx => ?_, ?_⟩
  · obtain ⟨y, hy, rfl⟩ := List.mem_map.1 hx
    have h9 := h.vs y hy
    have := hid_sec (ls := ls) hk h9.1 (h.tx y hy)
    exact ⟨by rw [this.1]; exact h9.1, h9.2.1, by rw [this.1]; exact h9.2.2⟩
  · obtain ⟨y, hy, rfl⟩ := List.mem_map.1 hx
    exact (hid_sec (ls := ls) hk (h.vs y hy).1 (h.tx y hy)).2
  · have := h.ent
    simpa [hidB, hidS, List.map_map, Function.comp_def] using this
theorem pagesV_hid {m h ent : Int} {ls : List Sea} {key : List UInt8} (hk : key = [] ∨ (validW key = true ∧ key.length ≤ 40)) : ∀ (vs : List Int) (ts : List Tx) (f : Bool) (n s : Int), (∀ t ∈ ts, OkT t) →
    pagesV m h ent vs (List.zipWith (fun v t => hidT ls ent v key t) vs ts) f n s = pagesV m h ent vs ts f n s
  | [], _, _, _, _, _ => by simp [pagesV]
  | _ :: _, [], _, _, _, _ => by simp
  | v :: vs, t :: ts, f, n, s, ht => by
    have h1 := ht t (.head _)
    have e : textP (hidT ls ent v key t) m h = textP t m h := textP_sk (hidPs_sk _ _ _ _ _ _) (hidPs_sk _ _ _ _ _ _) (chkT_ok (hid_ok hk h1)) (chkT_ok h1) m h
    simp only [List.zipWith_cons_cons, pagesV]
    rw [e, pagesV_hid hk vs ts _ _ _ fun u hu => ht u (.tail _ hu)]
theorem pagesS_hid {m h : Int} {ls : List Sea} {key : List UInt8} (hk : key = [] ∨ (validW key = true ∧ key.length ≤ 40)) : ∀ (l : List Se) (n : Int), (∀ x ∈ l, ∀ t ∈ x.texts, OkT t) → pagesS m h (l.map (hidS ls key)) n = pagesS m h l n
  | [], _, _ => rfl
  | x :: l, n, hx => by
    simp only [List.map_cons, pagesS]
    have e : pagesV m h (hidS ls key x).ent (hidS ls key x).vers (hidS ls key x).texts true n 0 = pagesV m h x.ent x.vers x.texts true n 0 := pagesV_hid hk _ _ _ _ _ (hx x (.head _))
    rw [e, pagesS_hid hk l _ fun y hy => hx y (.tail _ hy)]
theorem find_zip_hid {ls : List Sea} {key : List UInt8} {e v : Int} : ∀ (vs : List Int) (ts : List Tx), ((vs.zip (List.zipWith (fun u t => hidT ls e u key t) vs ts)).find? fun q => q.1 == v).map (·.2) = (((vs.zip ts).find? fun q => q.1 == v).map (·.2)).map (hidT ls e v key)
  | [], _ => by simp
  | _ :: _, [] => by simp
  | a :: vs, t :: ts => by
    simp only [List.zipWith_cons_cons, List.zip_cons_cons, List.find?_cons]
    cases h : a == v with
    | true =>
      have : a = v := by simpa using h
      subst this; rfl
    | false => exact find_zip_hid vs ts
theorem textB_hid (ls : List Sea) (key : List UInt8) (b : Bk) (e v : Int) : textB (hidB ls key b) e v = (textB b e v).map (hidT ls e v key) := by
  unfold textB hidB
  simp only
  rw [List.find?_map]
  have : ((fun x : Se => x.ent == e) ∘ hidS ls key) = fun x : Se => x.ent == e := by funext x; rfl
  rw [this]
  cases hf : b.secs.find? fun x => x.ent == e with
  | none => rfl
  | some x =>
    have he : x.ent = e := by simpa using List.find?_some hf
    simp only [Option.map_some, Option.bind_some, hidS, he]
    exact find_zip_hid _ _
/-- The tables are the same. -/
theorem hit_hid {b : Bk} {N V : Nat} (h : OkB b N V) {ls : List Sea} {key : List UInt8} (hk : key = [] ∨ (validW key = true ∧ key.length ≤ 40)) (br tb : Int) (k : List UInt8) (c : Ct) : Hit br tb ls b k c ↔ Hit br tb ls (hidB ls key b) k c := by
  have hp : pagesB (hidB ls key b) = pagesB b := pagesS_hid hk b.secs 0 h.tx
  unfold Hit
  rw [hp]
  refine exists_congr fun p => and_congr_right fun _ => ?_
  rw [textB_hid]
  cases textB b p.ent p.ver with
  | none => simp
  | some t =>
    simp only [Option.map_some, Option.some.injEq, exists_eq_left']
    refine exists_congr fun i => exists_congr fun x => and_congr_right fun _ => exists_congr fun n => and_congr_right fun _ => and_congr_right fun _ => ?_
    rw [hid_word]
    cases wordT t n with
    | none => simp
    | some w =>
      simp only [Option.map_some, Option.some.injEq, exists_eq_left']
      unfold hidW
      cases hs : seald ls p.ent p.ver n with
      | true => simp
      | false => simp
end Go.Proofs.YtdbnddmncbjobaaGreatDoor

/- replaced: walked. -/
namespace Go.Proofs.YtdbnddmncbjobaaGreatDoor
open Go Go.RowKit
attribute [local go_sem] Oper.semAt_some

def RpR (w : World) (hs : List Wd) (s13 s14 : Value) (W : World) : Prop := ∃ (i : Nat) (out : Value), i ≤ hs.length ∧ s14 = .int .i64 i ∧ out = s13 ∧ kWd.own 60 W w.heap.size (fun j => w.heap.size ≤ j) out (hs.take i) ∧ Ext w W
set_option maxHeartbeats 8000000 in
set_option maxRecDepth 100000 in
theorem replaced_any (P Q : Nat → Prop) (w : World) (A S : Option Addr) (n c m cS : Nat) (ws : List Wd) (ls : List Sea) (first e v : Int) (key : List UInt8) (h : kWd.row w P A n ws) (hs : kSea.row w Q S m ls) (hn : n ≤ 1000) (hm : m ≤ 1000000) (hg : ∀ s ∈ ls, OkSea s) (hf : 0 ≤ first ∧ first ≤ 100000) (ht : ∀ x ∈ ws, -1000 ≤ x.tb ∧ x.tb ≤ 1000) :
    Calls Tryz.prog 29 #[.slice A n c, .int .i64 first, .int .i64 e, .int .i64 v, .slice S m cS, .string ⟨key.toArray⟩] w fun z w' => ∃ A' n' c', z = .returned (.slice A' n' c') ∧ n' ≤ c' ∧ kWd.row w' (fun j => w.heap.size ≤ j) A' n' (hidP ls e v key first ws) ∧ Ext w w' := by
  have HR := Lib.hid (fun X (hX : Ext w X) => Lay.row_ext h hX)
  have HL := Lib.hid (Lay.row_len h)
  have HT := Lib.hid ht
  have HGR := Lib.hid (fun X (hX : Ext w X) (k : Int) => groups_any _ X S m cS ls e v k (Lay.row_ext hs hX) hm hg)
  have HAT := Lib.hid (fun i x (hx : ws[i]? = some x) => show (hidP ls e v key first ws)[i]? = some (hidW ls e v key (first + (i : Nat)) x) from by unfold hidP; rw [List.getElem?_mapIdx, hx]; rfl)
  have HLN := Lib.hid (show (hidP ls e v key first ws).length = ws.length from by unfold hidP; rw [List.length_mapIdx])
  obtain ⟨hw, hhw⟩ : ∃ hw, hidP ls e v key first ws = hw := ⟨_, rfl⟩
  rw [hhw] at HAT HLN ⊢
  clear h hs hm hg ht hhw
  go_enter Tryz.func29, Tryz.ntmps29
  go_wp2_with fail
  go_loopw [13, 14] (fun s13 s14 W => RpR w hw s13 s14 W) (fun _ s14 _ => toM n s14)
  case atStart => exact ⟨0, _, Nat.zero_le _, rfl, rfl, Lay.own_nil _ _ _ _ _, Ext.refl _⟩
  case round =>
    obtain ⟨i, out, hi, rfl, rfl, ho, hxr⟩ := hrel
    have HO := Lib.hid ho
    have HXR := Lib.hid hxr
    clear ho hxr
    by_cases hin : i < n
    case neg =>
      have hI : ¬ (i : Int) < (n : Int) := by omega
      have ho := HO.out
      rw [List.take_of_length_le (by have := HLN.out; have := HL.out; omega)] at ho
      have hlt := Lay.own_lt ho
      obtain ⟨A9, c9, rfl, h9, hr9⟩ := Lay.own_row ho
      have HR9 := Lib.hid (Lay.row_mono hr9 (Q := fun j => w.heap.size ≤ j) fun j hj _ => by
        rcases hj with hj | hj
        · exact hj
        · exact (hlt j hj).1)
      have H9 := Lib.hid h9
      obtain ⟨L, hLL⟩ : ∃ L, hw.length = L := ⟨_, rfl⟩
      rw [hLL] at HR9 H9
      rw [hLL]
      clear ho hlt h9 hr9 HO hLL
      go_wp2_with fail
      go_ret
      exact ⟨A9, L, c9, rfl, H9.out, HR9.out, HXR.out⟩
    have hI : (i : Int) < (n : Int) := by omega
    obtain ⟨x, hxi⟩ : ∃ x, ws[i]? = some x := ⟨_, List.getElem?_eq_getElem (by have := HL.out; omega)⟩
    obtain ⟨b0, off, cs, rfl, hb0, _, hrep, hcell⟩ := Lay.row_at (HR.out _ HXR.out) hxi
    rw [kWd_rep] at hrep
    subst hrep
    have c0 := hcell 0 _ rfl
    have c1 := hcell 1 _ rfl
    have c2 := hcell 2 _ rfl
    have c3 := hcell 3 _ rfl
    rw [kWd_sz] at c0 c1 c2 c3
    rw [Nat.add_zero] at c0
    have HX := Lib.hid hxi
    have htb := HT.out x (List.mem_of_getElem? hxi)
    clear hcell hxi
    obtain ⟨z, hz⟩ : ∃ z, wr.heap.size = z := ⟨_, rfl⟩
    obtain ⟨w1, hw1⟩ : ∃ w1, wr.alloc (.cells #[.string ⟨x.s.toArray⟩, .string ⟨x.key.toArray⟩, .int .i64 x.tb, .int .i64 x.nt] 60) = w1 := ⟨_, rfl⟩
    have hx1 : Ext wr w1 := by rw [← hw1]; exact (Ext.refl wr).alloc _
    have hB1 : w1.heap[z]? = some (.cells #[.string ⟨x.s.toArray⟩, .string ⟨x.key.toArray⟩, .int .i64 x.tb, .int .i64 x.nt] 60 (0, 0)) := by rw [← hw1, ← hz]; exact heap_alloc_new _ _
    have HX1 := Lib.hid hx1
    have HB1 := Lib.hid hB1
    have HZ := Lib.hid (show wr.heap.size ≤ z by omega)
    clear hx1 hB1
    go_upto_region 6 with (fail)
    clear hw1 hz c0 c1 c2 c3
    have hwf : IntKind.i64.wrap (first + (i : Int)) = first + (i : Int) := IntWalk.i64_in _ (by omega)
    have hi9 : i ≤ 1000 := by omega
    have hwi : IntKind.i64.wrap ((i : Int) + 1) = (i : Int) + 1 := IntWalk.i64_in _ (by omega)
    have hwt : IntKind.i64.wrap (1 - x.tb) = 1 - x.tb := IntWalk.i64_in _ (by omega)
    obtain ⟨sl, hsl⟩ : ∃ sl, seald ls e v (first + (i : Int)) = sl := ⟨_, rfl⟩
    have HG := Lib.hid (HGR.out w1 (HXR.out.trans HX1.out) (first + (i : Int)))
    rw [hsl] at HG
    have HSL := Lib.hid hsl
    clear hsl htb
    cases sl with
    | true =>
      go_upto_region 7 with (first | (go_at_call 34; refine (HG.out).mono ?_; rintro z9 w2 ⟨gq, rfl, hgq, hx2⟩; have hg0 : (gq == 0) = false := beq_eq_false_iff_ne.2 (fun e9 => absurd (hgq.1 e9) (by decide)); have hgn : (gq != 0) = true := (by simp [bne, hg0]); have HX2 := Lib.hid hx2; clear hgq hx2))
      have hB2 : w2.heap[z]? = some (.cells #[.string ⟨x.s.toArray⟩, .string ⟨x.key.toArray⟩, .int .i64 x.tb, .int .i64 x.nt] 60 (0, 0)) := (HX2.out.block _ (lt_of_block HB1.out)).trans HB1.out
      have f1 := frozen_of hB2 1
      have f2 := frozen_of hB2 2
      have y1 := cell_of hB2 (i := 1) rfl
      have y2 := cell_of hB2 (i := 2) (u := .int .i64 x.tb) rfl
      have HB2 := Lib.hid hB2
      clear hB2
      go_upto_region 9 with (fail)
      obtain ⟨w3, hw3⟩ : ∃ w3, (w2.setCell ⟨z, 1, none⟩ (.string ⟨key.toArray⟩)).setCell ⟨z, 2, none⟩ (.int .i64 (1 - x.tb)) = w3 := ⟨_, rfl⟩
      have hB3 : w3.heap[z]? = some (.cells #[.string ⟨x.s.toArray⟩, .string ⟨key.toArray⟩, .int .i64 (1 - x.tb), .int .i64 x.nt] 60 (0, 0)) := by
        rw [← hw3]
        exact heap_setCell_same _ z 2 _ 60 _ (heap_setCell_same _ z 1 _ 60 _ HB2.out)
      have HX3 := Lib.hid (show Ext wr w3 from by rw [← hw3]; exact ((HX1.out.trans HX2.out).setCell (p := ⟨z, 1, none⟩) HZ.out _).setCell (p := ⟨z, 2, none⟩) HZ.out _)
      rw [hw3]
      clear hw3 f1 f2 y1 y2 hwt
      have y0 := cell_of hB3 (i := 0) rfl
      have y1 := cell_of hB3 (i := 1) rfl
      have y2 := cell_of hB3 (i := 2) rfl
      have y3 := cell_of hB3 (i := 3) rfl
      obtain ⟨A9, c9, w9, hrun, ho9, hb9, _, _, _⟩ := own_app1 (k := kWd) (Pr := Tryz.prog) (t := 54) Tryz.underlying54 info60c rfl (by decide) (by omega) (Lay.own_ext HO.out HX3.out) (HXR.out.trans HX3.out).lt (cs := #[.string ⟨x.s.toArray⟩, .string ⟨key.toArray⟩, .int .i64 (1 - x.tb), .int .i64 x.nt]) (T := 60) (x := { x with key := key, tb := 1 - x.tb }) (kWd_rep.2 rfl) 1 (by rw [List.length_take]; omega)
      have HRUN := Lib.hid hrun
      have HREL := Lib.hid (show RpR w hw (.slice A9 ((hw.take i).length + 1) c9) (.int .i64 ((i : Int) + 1)) w9 from ⟨i + 1, _, by have := HLN.out; have := HL.out; omega, by simp, rfl, by
        have e9 := HAT.out i x HX.out
        unfold hidW at e9
        rw [HSL.out, if_pos rfl] at e9
        rw [List.take_add_one, e9]
        exact ho9, Below.trans (HXR.out.trans HX3.out) (hb9 _ (Nat.le_refl _))⟩)
      obtain ⟨L, hLL⟩ : ∃ L, (hw.take i).length + 1 = L := ⟨_, rfl⟩
      rw [hLL] at HRUN HREL
      clear hrun ho9 hb9 hLL
      go_wp2_with (first | (at_builtin; refine wpList_append_run HRUN.out rfl rfl rfl rfl rfl ?_))
      go_roundw
      case rel => exact HREL.out
      case measure => simp only [toM]; omega
    | false =>
      go_upto_region 9 with (first | (go_at_call 34; refine (HG.out).mono ?_; rintro z9 w3 ⟨gq, rfl, hgq, hx2⟩; obtain rfl : gq = 0 := hgq.2 rfl; have HX2 := Lib.hid hx2; clear hgq hx2))
      have hB3 : w3.heap[z]? = some (.cells #[.string ⟨x.s.toArray⟩, .string ⟨x.key.toArray⟩, .int .i64 x.tb, .int .i64 x.nt] 60 (0, 0)) := (HX2.out.block _ (lt_of_block HB1.out)).trans HB1.out
      have HX3 := Lib.hid (HX1.out.trans HX2.out)
      have y0 := cell_of hB3 (i := 0) rfl
      have y1 := cell_of hB3 (i := 1) rfl
      have y2 := cell_of hB3 (i := 2) rfl
      have y3 := cell_of hB3 (i := 3) rfl
      obtain ⟨A9, c9, w9, hrun, ho9, hb9, _, _, _⟩ := own_app1 (k := kWd) (Pr := Tryz.prog) (t := 54) Tryz.underlying54 info60c rfl (by decide) (by omega) (Lay.own_ext HO.out HX3.out) (HXR.out.trans HX3.out).lt (cs := #[.string ⟨x.s.toArray⟩, .string ⟨x.key.toArray⟩, .int .i64 x.tb, .int .i64 x.nt]) (T := 60) (x := x) (kWd_rep.2 rfl) 1 (by rw [List.length_take]; omega)
      have HRUN := Lib.hid hrun
      have HREL := Lib.hid (show RpR w hw (.slice A9 ((hw.take i).length + 1) c9) (.int .i64 ((i : Int) + 1)) w9 from ⟨i + 1, _, by have := HLN.out; have := HL.out; omega, by simp, rfl, by
        have e9 := HAT.out i x HX.out
        unfold hidW at e9
        rw [HSL.out, if_neg (by decide)] at e9
        rw [List.take_add_one, e9]
        exact ho9, Below.trans (HXR.out.trans HX3.out) (hb9 _ (Nat.le_refl _))⟩)
      obtain ⟨L, hLL⟩ : ∃ L, (hw.take i).length + 1 = L := ⟨_, rfl⟩
      rw [hLL] at HRUN HREL
      clear hrun ho9 hb9 hLL
      go_wp2_with (first | (at_builtin; refine wpList_append_run HRUN.out rfl rfl rfl rfl rfl ?_))
      go_roundw
      case rel => exact HREL.out
      case measure => simp only [toM]; omega
end Go.Proofs.YtdbnddmncbjobaaGreatDoor

/- A box of which one field is a row that grows; hidden words by number. -/
namespace Go.Proofs.YtdbnddmncbjobaaGreatDoor
open Go Go.RowKit

/-- The block zb holds the cells cf v, of which v is the row xs of the call's own; nothing older has changed. -/
structure GF {β : Type} (k : Lay β) (e T : TypeId) (W0 : World) (zb : Nat) (cf : Value → Array Value) (P : Nat → Prop) (v : Value) (xs : List β) (W : World) : Prop where
  mv : Mv zb W0 W
  b : W.heap[zb]? = some (.cells (cf v) T (0, 0))
  own : k.own e W W0.heap.size P v xs
  hz : zb < W0.heap.size
theorem GF.start {β : Type} (k : Lay β) (e T : TypeId) (W0 : World) (zb : Nat) (cf : Value → Array Value) (P : Nat → Prop) (h : W0.heap[zb]? = some (.cells (cf (.slice none 0 0)) T (0, 0))) : GF k e T W0 zb cf P (.slice none 0 0) [] W0 :=
  ⟨Mv.refl _ _, h, Lay.own_nil _ _ _ _ _, lt_of_block h⟩
theorem GF.ext {β : Type} {k : Lay β} {e T : TypeId} {W0 W W' : World} {zb : Nat} {cf : Value → Array Value} {P : Nat → Prop} {v : Value} {xs : List β} (h : GF k e T W0 zb cf P v xs W) (hx : Ext W W') : GF k e T W0 zb cf P v xs W' :=
  ⟨h.mv.trans (Mv.of_ext hx), (hx.block _ (lt_of_block h.b)).trans h.b, Lay.own_ext h.own hx, h.hz⟩
theorem GF.lt {β : Type} {k : Lay β} {e T : TypeId} {W0 W : World} {zb : Nat} {cf : Value → Array Value} {P : Nat → Prop} {v : Value} {xs : List β} (h : GF k e T W0 zb cf P v xs W) : ∀ j, v.ownBlock = some j → W0.heap.size ≤ j ∧ j < W.heap.size := Lay.own_lt h.own
/-- The row of what has grown, in blocks made since. -/
theorem GF.row {β : Type} {k : Lay β} {e T : TypeId} {W0 W : World} {zb : Nat} {cf : Value → Array Value} {P Q : Nat → Prop} {v : Value} {xs : List β} (h : GF k e T W0 zb cf P v xs W) (hP : ∀ j, P j → j < W.heap.size → Q j) (hQ : ∀ j, W0.heap.size ≤ j → Q j) : ∃ A n c, v = .slice A n c ∧ n ≤ c ∧ n = xs.length ∧ k.row W Q A n xs := by
  have hlt := h.lt
  obtain ⟨A, c, e1, h1, h2⟩ := Lay.own_row h.own
  exact ⟨A, _, c, e1, h1, rfl, Lay.row_mono h2 fun j hj hl => by
    rcases hj with hj | hj
    · exact hP j hj hl
    · exact hQ j (hlt j hj).1⟩
theorem GF.app {β : Type} {k : Lay β} {t e T : TypeId} {z : Value} {bytes : Nat} (ht : Tryz.prog.underlying t = some (.slice e)) (hinfo : (Tryz.prog.info? e).map (fun i => (i.zero, i.size, i.bytes)) = some (some z, k.sz, bytes)) (hzs : z.cells.size = k.sz) (hsz : 0 < k.sz) (hby : bytes ≤ 1000)
    {W0 W X : World} {zb f : Nat} {cf : Value → Array Value} {P : Nat → Prop} {v : Value} {xs : List β} (h : GF k e T W0 zb cf P v xs W) (hx : Ext W X) (hcf : ∀ v', (cf v).setIfInBounds f v' = cf v') (hP : ∀ j, P j → j ≠ zb) {cs : Array Value} {TT : TypeId} {x : β} (hr : k.rep X (fun j => P j ∧ v.ownBlock ≠ some j) x cs.toList) (c : Nat) (hm : xs.length < 100000000) :
    ∃ A' c' w', (Builtin.append_ #[t, t] t #[v, .slice (some ⟨X.heap.size, 0, none⟩) 1 c]).run Tryz.prog (X.alloc (.cells cs TT)) = .ok (.slice A' (xs.length + 1) c') w' ∧ w'.heap[zb]? = some (.cells (cf v) T (0, 0)) ∧ Mv zb W0 w' ∧
      GF k e T W0 zb cf P (.slice A' (xs.length + 1) c') (xs ++ [x]) (w'.setCell ⟨zb, f, none⟩ (.slice A' (xs.length + 1) c')) := by
  have h' := h.ext hx
  have hlt := h'.lt
  have hz := h.hz
  have hs := h'.mv.size
  obtain ⟨A', c', w', r1, r2, r3, r4, r5, r6⟩ := own_app1 (k := k) (Pr := Tryz.prog) (t := t) ht hinfo hzs hsz hby h'.own hs (cs := cs) (T := TT) (x := x) hr c hm
  have hne : v.ownBlock ≠ some zb := fun e9 => by have := (hlt zb e9).1; omega
  have hb : w'.heap[zb]? = some (.cells (cf v) T (0, 0)) := (r4 zb (by omega) hne).trans h'.b
  have hmv : Mv zb W0 w' := Mv.app h'.mv (fun j hj => r4 j (by omega) fun e9 => by have := (hlt j e9).1; omega) r5 r3
  refine ⟨A', c', w', r1, hb, hmv, hmv.trans (Mv.set _), ?_, ?_, hz⟩
  · have h9 := heap_setCell_same w' zb f (cf v) T (.slice A' (xs.length + 1) c') hb
    rw [hcf] at h9
    exact h9
  · refine Lay.own_keep r2 (by simp) fun j hj _ => heap_setCell_other w' ⟨zb, f, none⟩ j _ ?_
    show j ≠ zb
    rcases hj with hj | hj
    · exact hP j hj
    · rcases r6 j hj with h9 | h9
      · have := (hlt j h9).1; omega
      · omega
theorem hidPs_at (ls : List Sea) (e v : Int) (key : List UInt8) : ∀ (ps : List (List Wd)) (n : Int) (j : Nat) (p : List Wd), ps[j]? = some p → (hidPs ls e v key n ps)[j]? = some (hidP ls e v key (n + ((ps.take j).flatten.length : Nat)) p)
  | [], _, _, _, h => by simp at h
  | q :: ps, n, 0, p, h => by
    simp only [List.getElem?_cons_zero, Option.some.injEq] at h
    subst h
    simp [hidPs]
  | q :: ps, n, j + 1, p, h => by
    rw [List.getElem?_cons_succ] at h
    have ih := hidPs_at ls e v key ps (n + (q.length : Nat)) j p h
    rw [hidPs, List.getElem?_cons_succ, ih, List.take_succ_cons, List.flatten_cons, List.length_append]
    congr 2
    omega
theorem take_flat_succ {α : Type} {ps : List (List α)} {j : Nat} {p : List α} (h : ps[j]? = some p) : (ps.take (j + 1)).flatten.length = (ps.take j).flatten.length + p.length := by
  rw [List.take_add_one, h]
  simp
theorem take_flat_le {α : Type} (ps : List (List α)) (j : Nat) : (ps.take j).flatten.length ≤ ps.flatten.length := by
  have h9 := congrArg (fun l => (List.flatten l).length) (List.take_append_drop j ps)
  simp only [List.flatten_append, List.length_append] at h9
  omega
theorem OkT.tbs {t : Tx} (h : OkT t) {p : List Wd} (hp : p ∈ t.paras ++ t.notes) : p.length ≤ 40 ∧ ∀ w ∈ p, -1000 ≤ w.tb ∧ w.tb ≤ 1000 := by
  rcases List.mem_append.1 hp with hp | hp
  · refine ⟨(h.par.len p hp).2, fun w hw => ?_⟩
    have := (h.par.ok p hp w hw).2.2.1
    omega
  · refine ⟨by have := (h.len p hp).2; omega, fun w hw => ?_⟩
    have := (h.ok p hp w hw).1.2.2.1
    omega
theorem OkT.flats {t : Tx} (h : OkT t) : t.paras.flatten.length ≤ 4000 ∧ t.notes.flatten.length ≤ 3000 := by
  have h1 := flat_lt (ps := t.paras) fun p hp => by have := (h.tbs (List.mem_append_left _ hp)).1; omega
  have h2 := flat_lt (ps := t.notes) fun p hp => by have := (h.tbs (List.mem_append_right _ hp)).1; omega
  have := h.np
  have := h.nn
  omega
end Go.Proofs.YtdbnddmncbjobaaGreatDoor

/- The law IndexHidden: walked (printed by genzk.py). -/
namespace Go.Proofs.YtdbnddmncbjobaaGreatDoor
open Go Go.RowKit
attribute [local go_sem] Oper.semAt_some

def KeyOk (k : List UInt8) : Prop := k = [] ∨ (validW k = true ∧ k.length ≤ 40)
def HdA (w4 : World) (b : Bk) (z8 : Nat) (hs : List Se) (s9 : Value) (W : World) : Prop := ∃ (i : Nat) (v : Value), i ≤ hs.length ∧ s9 = .int .i64 i ∧ GF kSe 46 27 w4 z8 (fun v => #[.int .i64 b.ms, .int .i64 b.ht, v]) (fun j => j ≠ z8) v (hs.take i) W
def HdB (w6 : World) (z11 : Nat) (ent : Int) (fz : Bool) (vV : Value) (ht : List Tx) (s12 : Value) (W : World) : Prop := ∃ (k : Nat) (v : Value), k ≤ ht.length ∧ s12 = .int .i64 k ∧ GF kTx 53 46 w6 z11 (fun v => #[.int .i64 ent, .bool fz, vV, v]) (fun j => w6.heap.size ≤ j) v (ht.take k) W
def HdP (w7 : World) (z13 : Nat) (ps hp : List (List Wd)) (s14 s15 : Value) (W : World) : Prop := ∃ (j : Nat) (v : Value), j ≤ hp.length ∧ s15 = .int .i64 j ∧ s14 = .int .i64 ((ps.take j).flatten.length : Nat) ∧ GF kWs 54 53 w7 z13 (fun v => #[v, .slice none 0 0]) (fun j => w7.heap.size ≤ j) v (hp.take j) W
def HdN (w7 : World) (z13 : Nat) (vP : Value) (n0 : Nat) (ps hp : List (List Wd)) (s14 s16 : Value) (W : World) : Prop := ∃ (j : Nat) (v : Value), j ≤ hp.length ∧ s16 = .int .i64 j ∧ s14 = .int .i64 ((n0 + (ps.take j).flatten.length : Nat) : Int) ∧ GF kWs 54 53 w7 z13 (fun v => #[vP, v]) (fun j => w7.heap.size ≤ j) v (hp.take j) W
set_option maxHeartbeats 8000000 in
set_option maxRecDepth 100000 in
theorem hidden_law (A A' : Option Addr) (c c' : Nat) (l l' : List Int) (br tb which : Int) (w : World) (h : IL w A c l) (hl : l.length ≤ 9223372036854775807) (h' : IL w A' c' l') (hl' : l'.length ≤ 9223372036854775807)
    (htb : -9223372036854775808 ≤ tb ∧ tb ≤ 9223372036854775807) (hmy : -9223372036854775808 ≤ which ∧ which ≤ 9223372036854775807) (hL : EnvW w) :
    Calls Tryz.prog 6 #[.agg #[.slice A l.length c, .slice A' l'.length c', .int .i64 br, .int .i64 tb], .int .i64 which] w fun e w' => e = .returned (.bool true) ∧ Ext w w' := by
  have HLV := Lib.hid (fun X (hX : Ext w X) => lives31_any X (hL.ext hX))
  have HL := Lib.hid (fun X (hX : Ext w X) => hL.ext hX)
  have HMA := Lib.hid (fun X (hX : Ext w X) => made_any A A' c c' l l' br tb X (h.ext hX) hl (h'.ext hX) hl')
  have HTB := Lib.hid (fun X => around3_fn tb 2 X htb.1 htb.2 (by omega) (by omega))
  have HMY := Lib.hid (fun X (k : Int) (h1 : 1 ≤ k) (h2 : k ≤ 1000000000) => around3_fn which k X hmy.1 hmy.2 h1 h2)
  clear h h' hl hl' htb hmy hL
  obtain ⟨n1, hn1⟩ : ∃ n1, l.length = n1 := ⟨_, rfl⟩
  obtain ⟨n2, hn2⟩ : ∃ n2, l'.length = n2 := ⟨_, rfl⟩
  rw [hn1, hn2] at HMA ⊢
  clear hn1 hn2
  obtain ⟨t, ht⟩ : ∃ t, arnd tb 2 = t := ⟨_, rfl⟩
  rw [ht] at HTB
  clear ht
  obtain ⟨z, hz⟩ : ∃ z, w.heap.size = z := ⟨_, rfl⟩
  obtain ⟨w1, hw1⟩ : ∃ w1, w.alloc (.cells #[.slice A n1 c, .slice A' n2 c', .int .i64 br, .int .i64 tb] 24) = w1 := ⟨_, rfl⟩
  have hx1 : Ext w w1 := by rw [← hw1]; exact (Ext.refl w).alloc _
  have hB1 : w1.heap[z]? = some (.cells #[.slice A n1 c, .slice A' n2 c', .int .i64 br, .int .i64 tb] 24 (0, 0)) := by rw [← hw1, ← hz]; exact heap_alloc_new _ _
  have HX1 := Lib.hid hx1
  have HB1 := Lib.hid hB1
  have a0 := cell_of hB1 (i := 0) rfl
  have a1 := cell_of hB1 (i := 1) rfl
  have a2 := cell_of hB1 (i := 2) rfl
  have a3 := cell_of hB1 (i := 3) rfl
  clear hx1 hB1
  go_enter Tryz.func6, Tryz.ntmps6
  go_upto_region 1 with (fail)
  clear hw1 hz
  go_wp2_with fail
  refine (HMA.out _ HX1.out).mono ?_
  rintro e w2 ⟨b, B, N, cB, S, m, cS, ls, rfl, hok, hnc, hr, hmc, hrs, hlm, hgs, hx2⟩
  have HOK := Lib.hid hok.okB
  have HX2 := Lib.hid hx2
  have HM := Lib.hid (Lay.row_len hrs)
  have HMC := Lib.hid hmc
  have HLM := Lib.hid hlm
  have HGS := Lib.hid hgs
  have HSA := Lib.hid (fun e => row_A hrs e)
  obtain ⟨g, hg⟩ : ∃ g, w2.heap.size = g := ⟨_, rfl⟩
  obtain ⟨w3, hw3⟩ : ∃ w3, w2.alloc (.cells #[.int .i64 b.ms, .int .i64 b.ht, .slice B N cB] 27) = w3 := ⟨_, rfl⟩
  have hx23 : Ext w2 w3 := by rw [← hw3]; exact (Ext.refl w2).alloc _
  have hB3 : w3.heap[g]? = some (.cells #[.int .i64 b.ms, .int .i64 b.ht, .slice B N cB] 27 (0, 0)) := by rw [← hw3, ← hg]; exact heap_alloc_new _ _
  have HX3 := Lib.hid (hx2.trans hx23)
  have HB3 := Lib.hid hB3
  have HR := Lib.hid (fun X (hX : Ext w3 X) => Lay.row_ext hr (hx23.trans hX))
  have HRS := Lib.hid (fun X (hX : Ext w3 X) => Lay.row_ext hrs (hx23.trans hX))
  have HEV := Lib.hid (fun X (hX : Ext w3 X) => HL.out X (HX1.out.trans (HX3.out.trans hX)))
  have HQ := Lib.hid (fun X (hX : Ext w3 X) => (show (X.cell? ⟨z, 2, none⟩ = some (.int .i64 br) ∧ X.cell? ⟨z, 3, none⟩ = some (.int .i64 tb)) ∧ X.cell? ⟨g, 0, none⟩ = some (.int .i64 b.ms) ∧ X.cell? ⟨g, 1, none⟩ = some (.int .i64 b.ht) ∧ X.cell? ⟨g, 2, none⟩ = some (.slice B N cB) from
    have h9 := (hX.block _ (lt_of_block HB3.out)).trans HB3.out
    have h8 := ((HX3.out.trans hX).block _ (lt_of_block HB1.out)).trans HB1.out
    ⟨⟨cell_of h8 (i := 2) rfl, cell_of h8 (i := 3) rfl⟩, cell_of h9 (i := 0) rfl, cell_of h9 (i := 1) rfl, cell_of h9 (i := 2) rfl⟩))
  clear a0 a1 a2 a3 hx2 hx23 hB3 hr hrs hok hmc hlm hgs
  go_upto_region 2 with (fail)
  clear hw3 hg
  clear HTB
  have HM8 := Lib.hid (show m ≤ 1000000 from by have := HM.out; have := HLM.out; omega)
  obtain ⟨q, hq, hqb⟩ := around_nat which 4 (by omega)
  have HMQ := Lib.hid (fun X => (show Calls Tryz.prog 17 #[.int .i64 which, .int .i64 4] X (fun e w' => e = .returned (.int .i64 (q : Int)) ∧ X = w') from by rw [← hq]; exact HMY.out X 4 (by omega) (by omega)))
  clear hq
  go_cut [7] (fun s7 wx => ∃ kb : List UInt8, s7 = .string ⟨kb.toArray⟩ ∧ KeyOk kb ∧ Ext w3 wx)
  case first =>
    have hq4 : q = 0 ∨ q = 1 ∨ q = 2 ∨ q = 3 := by omega
    rcases hq4 with rfl | rfl | rfl | rfl
    all_goals
      go_wp2_with (first | (go_at_call 17; refine (HMQ.out _).mono ?_; rintro e w9 ⟨rfl, rfl⟩))
      go_meet
      case rel => exact ⟨_, rfl, by unfold KeyOk; decide, (Ext.refl w3).alloc _⟩
  case rest =>
    obtain ⟨kb, rfl, hkb, hxc⟩ := hcut
    have HKB := Lib.hid hkb
    have HXC := Lib.hid hxc
    obtain ⟨⟨a2, a3⟩, p0, p1, p2⟩ := HQ.out wc hxc
    go_upto_region 5 with (fail)
    clear a2 a3 p0 p1 p2
    obtain ⟨z8, hz8⟩ : ∃ z8, wc.heap.size = z8 := ⟨_, rfl⟩
    obtain ⟨w4, hw4⟩ : ∃ w4, wc.alloc (.cells #[.int .i64 b.ms, .int .i64 b.ht, .slice none 0 0] 27) = w4 := ⟨_, rfl⟩
    rw [hw4, hz8]
    have hx4 : Ext wc w4 := by rw [← hw4]; exact (Ext.refl wc).alloc _
    have hB4 : w4.heap[z8]? = some (.cells #[.int .i64 b.ms, .int .i64 b.ht, .slice none 0 0] 27 (0, 0)) := by rw [← hw4, ← hz8]; exact heap_alloc_new _ _
    have HG0 := Lib.hid (GF.start kSe 46 27 w4 z8 (fun v => #[.int .i64 b.ms, .int .i64 b.ht, v]) (fun j => j ≠ z8) hB4)
    have HX4 := Lib.hid (hxc.trans hx4)
    have HZ8 := Lib.hid (show w3.heap.size ≤ z8 by rw [← hz8]; exact hxc.lt)
    have HZW := Lib.hid (show z8 < w4.heap.size from lt_of_block hB4)
    have HN := Lib.hid (Lay.row_len (HR.out _ (Ext.refl _)))
    have HNB := Lib.hid (show N ≤ 4 from by have := HN.out; have := HOK.out.n; omega)
    have HRL := Lib.hid (show kSe.row w3 (fun j => j < w3.heap.size) B N b.secs from Lay.row_mono (HR.out _ (Ext.refl _)) fun j _ hj => hj)
    obtain ⟨hs, hhs⟩ : ∃ hs, b.secs.map (hidS ls kb) = hs := ⟨_, rfl⟩
    have HHS := Lib.hid (show (hidB ls kb b).secs = hs from hhs)
    have HAT := Lib.hid (fun (i : Nat) (x : Se) (hx : b.secs[i]? = some x) => show hs[i]? = some (hidS ls kb x) from by rw [← hhs, List.getElem?_map, hx]; rfl)
    have HHL := Lib.hid (show hs.length = N from by rw [← hhs, List.length_map]; exact HN.out.symm)
    clear hx4 hB4 hxc hkb hhs hqb hw4 hz8
    go_wp2_with fail
    go_loopw [9] (fun s9 W => HdA w4 b z8 hs s9 W) (fun s9 _ => toM N s9)
    case atStart => exact ⟨0, _, Nat.zero_le _, rfl, HG0.out⟩
    case round =>
      obtain ⟨i, v8, hi, rfl, hg⟩ := hrel
      have HG := Lib.hid hg
      have HXR := Lib.hid (hg.mv.ext w3 HZ8.out HX4.out)
      have hi9 : i ≤ N := by have := HHL.out; omega
      clear hg
      obtain ⟨⟨a2, a3⟩, p0, p1, p2⟩ := HQ.out _ HXR.out
      by_cases hiN : i < N
      case neg =>
        have hI : ¬ (i : Int) < (N : Int) := by omega
        obtain ⟨A9, n9, c9, rfl, h9, hn9, hr9⟩ := HG.out.row (Q := fun _ => True) (fun _ _ _ => trivial) (fun _ _ => trivial)
        rw [List.take_of_length_le (by have := HHL.out; omega)] at hn9 hr9
        have HRO := Lib.hid hr9
        have HBO := Lib.hid HG.out.b
        clear hn9 hr9
        have HQO := Lib.hid (fun X (hX : Ext wr X) => (show X.cell? ⟨z, 2, none⟩ = some (.int .i64 br) ∧ (X.cell? ⟨g, 0, none⟩ = some (.int .i64 b.ms) ∧ X.cell? ⟨g, 1, none⟩ = some (.int .i64 b.ht) ∧ X.cell? ⟨g, 2, none⟩ = some (.slice B N cB)) ∧ X.cell? ⟨z8, 0, none⟩ = some (.int .i64 b.ms) ∧ X.cell? ⟨z8, 1, none⟩ = some (.int .i64 b.ht) ∧ X.cell? ⟨z8, 2, none⟩ = some (.slice A9 n9 c9) from
          have h8 := HQ.out X (HXR.out.trans hX)
          have h9 := (hX.block _ (lt_of_block HBO.out)).trans HBO.out
          ⟨h8.1.1, ⟨h8.2.1, h8.2.2.1, h8.2.2.2⟩, cell_of h9 (i := 0) rfl, cell_of h9 (i := 1) rfl, cell_of h9 (i := 2) rfl⟩))
        have HIB := Lib.hid (fun X (hX : Ext wr X) (tt : Int) => items_mk X b br tt ls B S N cB m cS _ _ HOK.out (HR.out X (HXR.out.trans hX)) (HRS.out X (HXR.out.trans hX)) HM8.out HGS.out (HEV.out X (HXR.out.trans hX)))
        have HIO := Lib.hid (fun X (hX : Ext wr X) (tt : Int) => (show Calls Tryz.prog 19 #[.agg #[.int .i64 b.ms, .int .i64 b.ht, .slice A9 n9 c9], .int .i64 br, .int .i64 tt, .slice S m cS] X (fun e w' => ∃ A1 n1 c1, e = .returned (.slice A1 n1 c1) ∧ TbV w' A1 n1 c1 (itemsB br tt ls b) 16000000 ∧ Ext X w') from by
          have h9 := items_mk X (hidB ls kb b) br tt ls A9 S n9 c9 m cS _ _ (HOK.out.hid ls HKB.out) (by rw [HHS.out]; exact Lay.row_ext HRO.out hX) (HRS.out X (HXR.out.trans hX)) HM8.out HGS.out (HEV.out X (HXR.out.trans hX))
          rw [show itemsB br tt ls (hidB ls kb b) = itemsB br tt ls b from (items_ext fun k c => hit_hid HOK.out HKB.out br tt k c).symm] at h9
          exact h9))
        have HLR := Lib.hid (fun X (hX : Ext wr X) => HLV.out X (HX1.out.trans (HX3.out.trans (HXR.out.trans hX))))
        have HXW := Lib.hid (HX1.out.trans (HX3.out.trans HXR.out))
        go_upto_region 26 with (fail)
        have hcur : Ext wr wr.drew := (Ext.refl _).drew
        clear a2 a3 p0 p1 p2 hI hiN
        have hS0 : (fun X : World => X.cell? ⟨z, 2, none⟩ = some (.int .i64 br) ∧ (X.cell? ⟨g, 0, none⟩ = some (.int .i64 b.ms) ∧ X.cell? ⟨g, 1, none⟩ = some (.int .i64 b.ht) ∧ X.cell? ⟨g, 2, none⟩ = some (.slice B N cB)) ∧ X.cell? ⟨z8, 0, none⟩ = some (.int .i64 b.ms) ∧ X.cell? ⟨z8, 1, none⟩ = some (.int .i64 b.ht) ∧ X.cell? ⟨z8, 2, none⟩ = some (.slice A9 n9 c9)) wr.drew := HQO.out _ hcur
        refine wp_region_E (fun X : World => X.cell? ⟨z, 2, none⟩ = some (.int .i64 br) ∧ (X.cell? ⟨g, 0, none⟩ = some (.int .i64 b.ms) ∧ X.cell? ⟨g, 1, none⟩ = some (.int .i64 b.ht) ∧ X.cell? ⟨g, 2, none⟩ = some (.slice B N cB)) ∧ X.cell? ⟨z8, 0, none⟩ = some (.int .i64 b.ms) ∧ X.cell? ⟨z8, 1, none⟩ = some (.int .i64 b.ht) ∧ X.cell? ⟨z8, 2, none⟩ = some (.slice A9 n9 c9)) (fun _ => True) (fun i => i == 27) (by kernel_rfl) ?_
        refine wpE_takeS (i := 0) (d := some 167) (v := .agg #[.int .i64 b.ms, .int .i64 b.ht, .slice B N cB]) rfl rfl (by kernel_rfl) (by kernel_rfl) (by kernel_rfl) (by kernel_rfl) (fun _ _ _ h => h) (by rfl) ?hyz1 hS0 trivial ?goz1
        case hyz1 =>
          intro w9 hT9
          obtain ⟨y0, ⟨y1, y2, y3⟩, y4, y5, y6⟩ := hT9; go_simp
        (try simp only [Act.put, List.setIfInBounds_toArray, List.set_cons_zero, List.set_cons_succ])
        refine wpE_takeS (i := 1) (d := some 168) (v := .pointer (some ⟨z, 2, none⟩)) rfl rfl (by kernel_rfl) (by kernel_rfl) (by kernel_rfl) (by kernel_rfl) (fun _ _ _ h => h) (by rfl) ?hyz2 hS0 trivial ?goz2
        case hyz2 =>
          intro w9 hT9
          clear hT9; go_simp
        (try simp only [Act.put, List.setIfInBounds_toArray, List.set_cons_zero, List.set_cons_succ])
        refine wpE_takeS (i := 2) (d := some 169) (v := .int .i64 br) rfl rfl (by kernel_rfl) (by kernel_rfl) (by kernel_rfl) (by kernel_rfl) (fun _ _ _ h => h) (by rfl) ?hyz3 hS0 trivial ?goz3
        case hyz3 =>
          intro w9 hT9
          obtain ⟨y0, ⟨y1, y2, y3⟩, y4, y5, y6⟩ := hT9; go_simp
        (try simp only [Act.put, List.setIfInBounds_toArray, List.set_cons_zero, List.set_cons_succ])
        refine wpE_takeS (i := 3) (d := some 170) (v := .slice S m cS) rfl rfl (by kernel_rfl) (by kernel_rfl) (by kernel_rfl) (by kernel_rfl) (fun _ _ _ h => h) (by rfl) ?hyz4 hS0 trivial ?goz4
        case hyz4 =>
          intro w9 hT9
          clear hT9; go_simp
        (try simp only [Act.put, List.setIfInBounds_toArray, List.set_cons_zero, List.set_cons_succ])
        refine wpE_takeS (i := 5) (d := some 172) (v := .agg #[.int .i64 b.ms, .int .i64 b.ht, .slice A9 n9 c9]) rfl rfl (by kernel_rfl) (by kernel_rfl) (by kernel_rfl) (by kernel_rfl) (fun _ _ _ h => h) (by rfl) ?hyz5 hS0 trivial ?goz5
        case hyz5 =>
          intro w9 hT9
          obtain ⟨y0, ⟨y1, y2, y3⟩, y4, y5, y6⟩ := hT9; go_simp
        (try simp only [Act.put, List.setIfInBounds_toArray, List.set_cons_zero, List.set_cons_succ])
        refine wpE_takeS (i := 6) (d := some 173) (v := .pointer (some ⟨z, 2, none⟩)) rfl rfl (by kernel_rfl) (by kernel_rfl) (by kernel_rfl) (by kernel_rfl) (fun _ _ _ h => h) (by rfl) ?hyz6 hS0 trivial ?goz6
        case hyz6 =>
          intro w9 hT9
          clear hT9; go_simp
        (try simp only [Act.put, List.setIfInBounds_toArray, List.set_cons_zero, List.set_cons_succ])
        refine wpE_takeS (i := 7) (d := some 174) (v := .int .i64 br) rfl rfl (by kernel_rfl) (by kernel_rfl) (by kernel_rfl) (by kernel_rfl) (fun _ _ _ h => h) (by rfl) ?hyz7 hS0 trivial ?goz7
        case hyz7 =>
          intro w9 hT9
          obtain ⟨y0, ⟨y1, y2, y3⟩, y4, y5, y6⟩ := hT9; go_simp
        (try simp only [Act.put, List.setIfInBounds_toArray, List.set_cons_zero, List.set_cons_succ])
        refine wpE_takeS (i := 8) (d := some 175) (v := .slice S m cS) rfl rfl (by kernel_rfl) (by kernel_rfl) (by kernel_rfl) (by kernel_rfl) (fun _ _ _ h => h) (by rfl) ?hyz8 hS0 trivial ?goz8
        case hyz8 =>
          intro w9 hT9
          clear hT9; go_simp
        (try simp only [Act.put, List.setIfInBounds_toArray, List.set_cons_zero, List.set_cons_succ])
        refine wpE_all (rs := [4]) (by kernel_rfl) (by simp) ?_
        refine AllE.cons rfl (fun K hK => ?_) AllE.nil
        simp only [List.getElem_toArray, List.getElem_cons_succ, List.getElem_cons_zero]
        go_simp
        go_at_call 19
        refine (HIB.out _ hcur 0).mono ?_
        rintro z9 wa1 ⟨Aa1, na1, ca1, rfl, hTa1, hxa1⟩
        have hcur := hcur.trans hxa1
        simp only []
        refine hK.out _ _ ⟨fun _ => (HQO.out _ hcur), trivial⟩ (fun _ => ?_)
        clear hK K
        have hS0 := (HQO.out _ hcur)
        (try simp only [Act.put, List.setIfInBounds_toArray, List.set_cons_zero, List.set_cons_succ])
        refine wpE_all (rs := [9]) (by kernel_rfl) (by simp) ?_
        refine AllE.cons rfl (fun K hK => ?_) AllE.nil
        simp only [List.getElem_toArray, List.getElem_cons_succ, List.getElem_cons_zero]
        go_simp
        go_at_call 19
        refine (HIO.out _ hcur 0).mono ?_
        rintro z9 wb1 ⟨Ab1, nb1, cb1, rfl, hTb1, hxb1⟩
        have hcur := hcur.trans hxb1
        simp only []
        refine hK.out _ _ ⟨fun _ => (HQO.out _ hcur), trivial⟩ (fun _ => ?_)
        clear hK K
        have hS0 := (HQO.out _ hcur)
        (try simp only [Act.put, List.setIfInBounds_toArray, List.set_cons_zero, List.set_cons_succ])
        refine wpE_all (rs := [10]) (by kernel_rfl) (by simp) ?_
        refine AllE.cons rfl (fun K hK => ?_) AllE.nil
        simp only [List.getElem_toArray, List.getElem_cons_succ, List.getElem_cons_zero]
        go_simp
        go_at_call 18
        refine (same_tb (hTa1.ext hxb1) hTb1 (by omega) (by omega) true (decide_eq_true rfl)).mono ?_
        rintro z9 wq1 ⟨rfl, hxq1⟩
        have hcur := hcur.trans hxq1
        simp only []
        refine hK.out _ _ ⟨fun _ => (HQO.out _ hcur), trivial⟩ (fun _ => ?_)
        clear hK K
        have hS0 := (HQO.out _ hcur)
        (try simp only [Act.put, List.setIfInBounds_toArray, List.set_cons_zero, List.set_cons_succ])
        refine wpE_takeS (i := 11) (d := some 178) (v := .bool true) rfl rfl (by kernel_rfl) (by kernel_rfl) (by kernel_rfl) (by kernel_rfl) (fun _ _ _ h => h) (by rfl) ?hyz9 hS0 trivial ?goz9
        case hyz9 =>
          intro w9 hT9
          clear hT9; go_simp
        (try simp only [Act.put, List.setIfInBounds_toArray, List.set_cons_zero, List.set_cons_succ])
        refine wpE_takeS (i := 12) (d := some 179) (v := .agg #[.int .i64 b.ms, .int .i64 b.ht, .slice B N cB]) rfl rfl (by kernel_rfl) (by kernel_rfl) (by kernel_rfl) (by kernel_rfl) (fun _ _ _ h => h) (by rfl) ?hyz10 hS0 trivial ?goz10
        case hyz10 =>
          intro w9 hT9
          obtain ⟨y0, ⟨y1, y2, y3⟩, y4, y5, y6⟩ := hT9; go_simp
        (try simp only [Act.put, List.setIfInBounds_toArray, List.set_cons_zero, List.set_cons_succ])
        refine wpE_takeS (i := 13) (d := some 180) (v := .pointer (some ⟨z, 2, none⟩)) rfl rfl (by kernel_rfl) (by kernel_rfl) (by kernel_rfl) (by kernel_rfl) (fun _ _ _ h => h) (by rfl) ?hyz11 hS0 trivial ?goz11
        case hyz11 =>
          intro w9 hT9
          clear hT9; go_simp
        (try simp only [Act.put, List.setIfInBounds_toArray, List.set_cons_zero, List.set_cons_succ])
        refine wpE_takeS (i := 14) (d := some 181) (v := .int .i64 br) rfl rfl (by kernel_rfl) (by kernel_rfl) (by kernel_rfl) (by kernel_rfl) (fun _ _ _ h => h) (by rfl) ?hyz12 hS0 trivial ?goz12
        case hyz12 =>
          intro w9 hT9
          obtain ⟨y0, ⟨y1, y2, y3⟩, y4, y5, y6⟩ := hT9; go_simp
        (try simp only [Act.put, List.setIfInBounds_toArray, List.set_cons_zero, List.set_cons_succ])
        refine wpE_takeS (i := 15) (d := some 182) (v := .slice S m cS) rfl rfl (by kernel_rfl) (by kernel_rfl) (by kernel_rfl) (by kernel_rfl) (fun _ _ _ h => h) (by rfl) ?hyz13 hS0 trivial ?goz13
        case hyz13 =>
          intro w9 hT9
          clear hT9; go_simp
        (try simp only [Act.put, List.setIfInBounds_toArray, List.set_cons_zero, List.set_cons_succ])
        refine wpE_takeS (i := 17) (d := some 184) (v := .agg #[.int .i64 b.ms, .int .i64 b.ht, .slice A9 n9 c9]) rfl rfl (by kernel_rfl) (by kernel_rfl) (by kernel_rfl) (by kernel_rfl) (fun _ _ _ h => h) (by rfl) ?hyz14 hS0 trivial ?goz14
        case hyz14 =>
          intro w9 hT9
          obtain ⟨y0, ⟨y1, y2, y3⟩, y4, y5, y6⟩ := hT9; go_simp
        (try simp only [Act.put, List.setIfInBounds_toArray, List.set_cons_zero, List.set_cons_succ])
        refine wpE_takeS (i := 18) (d := some 185) (v := .pointer (some ⟨z, 2, none⟩)) rfl rfl (by kernel_rfl) (by kernel_rfl) (by kernel_rfl) (by kernel_rfl) (fun _ _ _ h => h) (by rfl) ?hyz15 hS0 trivial ?goz15
        case hyz15 =>
          intro w9 hT9
          clear hT9; go_simp
        (try simp only [Act.put, List.setIfInBounds_toArray, List.set_cons_zero, List.set_cons_succ])
        refine wpE_takeS (i := 19) (d := some 186) (v := .int .i64 br) rfl rfl (by kernel_rfl) (by kernel_rfl) (by kernel_rfl) (by kernel_rfl) (fun _ _ _ h => h) (by rfl) ?hyz16 hS0 trivial ?goz16
        case hyz16 =>
          intro w9 hT9
          obtain ⟨y0, ⟨y1, y2, y3⟩, y4, y5, y6⟩ := hT9; go_simp
        (try simp only [Act.put, List.setIfInBounds_toArray, List.set_cons_zero, List.set_cons_succ])
        refine wpE_takeS (i := 20) (d := some 187) (v := .slice S m cS) rfl rfl (by kernel_rfl) (by kernel_rfl) (by kernel_rfl) (by kernel_rfl) (fun _ _ _ h => h) (by rfl) ?hyz17 hS0 trivial ?goz17
        case hyz17 =>
          intro w9 hT9
          clear hT9; go_simp
        (try simp only [Act.put, List.setIfInBounds_toArray, List.set_cons_zero, List.set_cons_succ])
        refine wpE_all (rs := [16]) (by kernel_rfl) (by simp) ?_
        refine AllE.cons rfl (fun K hK => ?_) AllE.nil
        simp only [List.getElem_toArray, List.getElem_cons_succ, List.getElem_cons_zero]
        go_simp
        go_at_call 19
        refine (HIB.out _ hcur 1).mono ?_
        rintro z9 wa2 ⟨Aa2, na2, ca2, rfl, hTa2, hxa2⟩
        have hcur := hcur.trans hxa2
        simp only []
        refine hK.out _ _ ⟨fun _ => (HQO.out _ hcur), trivial⟩ (fun _ => ?_)
        clear hK K
        have hS0 := (HQO.out _ hcur)
        (try simp only [Act.put, List.setIfInBounds_toArray, List.set_cons_zero, List.set_cons_succ])
        refine wpE_all (rs := [21]) (by kernel_rfl) (by simp) ?_
        refine AllE.cons rfl (fun K hK => ?_) AllE.nil
        simp only [List.getElem_toArray, List.getElem_cons_succ, List.getElem_cons_zero]
        go_simp
        go_at_call 19
        refine (HIO.out _ hcur 1).mono ?_
        rintro z9 wb2 ⟨Ab2, nb2, cb2, rfl, hTb2, hxb2⟩
        have hcur := hcur.trans hxb2
        simp only []
        refine hK.out _ _ ⟨fun _ => (HQO.out _ hcur), trivial⟩ (fun _ => ?_)
        clear hK K
        have hS0 := (HQO.out _ hcur)
        (try simp only [Act.put, List.setIfInBounds_toArray, List.set_cons_zero, List.set_cons_succ])
        refine wpE_all (rs := [22]) (by kernel_rfl) (by simp) ?_
        refine AllE.cons rfl (fun K hK => ?_) AllE.nil
        simp only [List.getElem_toArray, List.getElem_cons_succ, List.getElem_cons_zero]
        go_simp
        go_at_call 18
        refine (same_tb (hTa2.ext hxb2) hTb2 (by omega) (by omega) true (decide_eq_true rfl)).mono ?_
        rintro z9 wq2 ⟨rfl, hxq2⟩
        have hcur := hcur.trans hxq2
        simp only []
        refine hK.out _ _ ⟨fun _ => (HQO.out _ hcur), trivial⟩ (fun _ => ?_)
        clear hK K
        have hS0 := (HQO.out _ hcur)
        (try simp only [Act.put, List.setIfInBounds_toArray, List.set_cons_zero, List.set_cons_succ])
        refine wpE_takeS (i := 23) (d := some 190) (v := .bool true) rfl rfl (by kernel_rfl) (by kernel_rfl) (by kernel_rfl) (by kernel_rfl) (fun _ _ _ h => h) (by rfl) ?hyz18 hS0 trivial ?goz18
        case hyz18 =>
          intro w9 hT9
          clear hT9; go_simp
        (try simp only [Act.put, List.setIfInBounds_toArray, List.set_cons_zero, List.set_cons_succ])
        refine wpE_takeS (i := 24) (d := some 191) (v := .bool true) rfl rfl (by kernel_rfl) (by kernel_rfl) (by kernel_rfl) (by kernel_rfl) (fun _ _ _ h => h) (by rfl) ?hyz19 hS0 trivial ?goz19
        case hyz19 =>
          intro w9 hT9
          clear hT9; go_simp
        (try simp only [Act.put, List.setIfInBounds_toArray, List.set_cons_zero, List.set_cons_succ])
        refine wpE_all (rs := [25]) (by kernel_rfl) (by simp) ?_
        refine AllE.cons rfl (fun K hK => ?_) AllE.nil
        simp only [List.getElem_toArray, List.getElem_cons_succ, List.getElem_cons_zero]
        go_simp
        go_at_call 21
        refine (HLR.out _ hcur).mono ?_
        rintro z9 wl ⟨rfl, hxl⟩
        have hcur := hcur.trans hxl
        simp only []
        refine hK.out _ _ ⟨fun _ => (HQO.out _ hcur), trivial⟩ (fun _ => ?_)
        clear hK K
        have hS0 := (HQO.out _ hcur)
        (try simp only [Act.put, List.setIfInBounds_toArray, List.set_cons_zero, List.set_cons_succ])
        refine wpE_takeS (i := 26) (d := some 193) (v := .bool true) rfl rfl (by kernel_rfl) (by kernel_rfl) (by kernel_rfl) (by kernel_rfl) (fun _ _ _ h => h) (by rfl) ?hyz20 hS0 trivial ?goz20
        case hyz20 =>
          intro w9 hT9
          clear hT9; go_simp
        (try simp only [Act.put, List.setIfInBounds_toArray, List.set_cons_zero, List.set_cons_succ])
        refine wpE_all (rs := [27]) (by kernel_rfl) (by simp) ?_
        refine AllE.cons rfl (fun K hK => ?_) AllE.nil
        simp only [List.getElem_toArray, List.getElem_cons_succ, List.getElem_cons_zero]
        go_simp
        refine hK.out _ _ ⟨fun h => absurd h (by simp), trivial⟩ (fun _ => ?_)
        clear hK K
        (try simp only [Act.put, List.setIfInBounds_toArray, List.set_cons_zero, List.set_cons_succ])
        refine wpE_done (by kernel_rfl) ?_ _
        go_wp2
        go_ret
        exact ⟨rfl, HXW.out.trans hcur⟩
      have hI : (i : Int) < (N : Int) := by omega
      obtain ⟨x, hxi⟩ : ∃ x, b.secs[i]? = some x := ⟨_, List.getElem?_eq_getElem (by have := HN.out; omega)⟩
      obtain ⟨bs, os, cs, rfl, hbs, _, hrep, hcs⟩ := Lay.row_at HRL.out hxi
      obtain ⟨A1, nv, c1, A2, nt, c2, rfl, hn1, hn2, hr1, hr2⟩ := kSe_rep.1 hrep
      have e0 := (HXR.out.cells.1 _ _ hbs).trans (hcs 0 _ rfl)
      have e1 := (HXR.out.cells.1 _ _ hbs).trans (hcs 1 _ rfl)
      have e2 := (HXR.out.cells.1 _ _ hbs).trans (hcs 2 _ rfl)
      have e3 := (HXR.out.cells.1 _ _ hbs).trans (hcs 3 _ rfl)
      rw [kSe_sz] at e0 e1 e2 e3
      rw [Nat.add_zero] at e0
      have HXI := Lib.hid hxi
      have HXM := Lib.hid (List.mem_of_getElem? hxi)
      have HR1 := Lib.hid hr1
      have HR2 := Lib.hid hr2
      have HVC := Lib.hid hn1
      have HHX := Lib.hid (HAT.out i x hxi)
      have hvl := HOK.out.vs x HXM.out
      have HNV := Lib.hid (show nv = x.vers.length ∧ nt = x.texts.length ∧ nv = nt ∧ nt ≤ 3 from by have := Lay.row_len hr1; have := Lay.row_len hr2; omega)
      clear hrep hcs hr1 hr2 hxi hn1 hn2 hvl hbs
      obtain ⟨z10, hz10⟩ : ∃ z10, wr.heap.size = z10 := ⟨_, rfl⟩
      obtain ⟨w5, hw5⟩ : ∃ w5, wr.alloc (.cells #[.int .i64 x.ent, .bool x.fz, .slice A1 nv c1, .slice A2 nt c2] 46) = w5 := ⟨_, rfl⟩
      have hx5 : Ext wr w5 := by rw [← hw5]; exact (Ext.refl wr).alloc _
      have hB5 : w5.heap[z10]? = some (.cells #[.int .i64 x.ent, .bool x.fz, .slice A1 nv c1, .slice A2 nt c2] 46 (0, 0)) := by rw [← hw5, ← hz10]; exact heap_alloc_new _ _
      have f0 := cell_of hB5 (i := 0) rfl
      have f1 := cell_of hB5 (i := 1) rfl
      have f2 := cell_of hB5 (i := 2) rfl
      go_upto_region 10 with (fail)
      clear e0 e1 e2 e3 f0 f1 f2 a2 a3 p0 p1 p2
      obtain ⟨z11, hz11⟩ : ∃ z11, w5.heap.size = z11 := ⟨_, rfl⟩
      obtain ⟨w6, hw6⟩ : ∃ w6, w5.alloc (.cells #[.int .i64 x.ent, .bool x.fz, .slice A1 nv c1, .slice none 0 0] 46) = w6 := ⟨_, rfl⟩
      rw [hw6, hz11]
      have hx6 : Ext w5 w6 := by rw [← hw6]; exact (Ext.refl w5).alloc _
      have hB6 : w6.heap[z11]? = some (.cells #[.int .i64 x.ent, .bool x.fz, .slice A1 nv c1, .slice none 0 0] 46 (0, 0)) := by rw [← hw6, ← hz11]; exact heap_alloc_new _ _
      have HB5 := Lib.hid hB5
      have HX56 := Lib.hid hx6
      have HX6 := Lib.hid (hx5.trans hx6)
      have HZS := Lib.hid (show wr.heap.size ≤ z10 ∧ z10 < z11 ∧ z11 < w6.heap.size from ⟨by omega, by rw [← hz11]; exact lt_of_block hB5, lt_of_block hB6⟩)
      have HG6 := Lib.hid (GF.start kTx 53 46 w6 z11 (fun v => #[.int .i64 x.ent, .bool x.fz, .slice A1 nv c1, v]) (fun j => w6.heap.size ≤ j) hB6)
      clear hx5 hB5 hx6 hB6 hw5 hz10 hw6 hz11
      obtain ⟨ht, hht⟩ : ∃ ht, (hidS ls kb x).texts = ht := ⟨_, rfl⟩
      have HHT := Lib.hid (fun (k : Nat) (v : Int) (t : Tx) (h1 : x.vers[k]? = some v) (h2 : x.texts[k]? = some t) => show ht[k]? = some (hidT ls x.ent v kb t) from by
        rw [← hht]
        show (List.zipWith (fun v t => hidT ls x.ent v kb t) x.vers x.texts)[k]? = _
        rw [List.getElem?_zipWith, h1, h2])
      have HTL := Lib.hid (show ht.length = nt from by
        rw [← hht]
        show (List.zipWith (fun v t => hidT ls x.ent v kb t) x.vers x.texts).length = _
        rw [List.length_zipWith]
        have := HNV.out; omega)
      have HTE := Lib.hid hht
      clear hht
      have HQB := Lib.hid (fun X (hX : Mv z11 w6 X) => (show X.cell? ⟨z10, 0, none⟩ = some (.int .i64 x.ent) ∧ X.cell? ⟨z10, 2, none⟩ = some (.slice A1 nv c1) ∧ X.cell? ⟨z10, 3, none⟩ = some (.slice A2 nt c2) from
        have h8 := (HX56.out.block _ (lt_of_block HB5.out)).trans HB5.out
        have h9 := hX.blk (by have := HZS.out; omega) h8
        ⟨cell_of h9 (i := 0) rfl, cell_of h9 (i := 2) rfl, cell_of h9 (i := 3) rfl⟩))
      go_wp2_with fail
      go_loopw [12] (fun s12 W => HdB w6 z11 x.ent x.fz (.slice A1 nv c1) ht s12 W) (fun s12 _ => toM nt s12)
      case atStart => exact ⟨0, _, Nat.zero_le _, rfl, HG6.out⟩
      case round =>
        rename World => wp
        obtain ⟨k, v11, hk, rfl, hg2⟩ := hrel
        have HG2 := Lib.hid hg2
        have HXK := Lib.hid (hg2.mv.ext wr (by have := HZS.out; omega) HX6.out)
        have hk9 : k ≤ nt := by have := HTL.out; omega
        have hnt3 : nt ≤ 3 := HNV.out.2.2.2
        obtain ⟨g0, g2, g3⟩ := HQB.out _ hg2.mv
        clear hg2
        by_cases hkt : k < nt
        case neg =>
          have hK : ¬ (k : Int) < (nt : Int) := by omega
          have hwi : IntKind.i64.wrap ((i : Int) + 1) = (i : Int) + 1 := IntWalk.i64_in _ (by have := HNB.out; omega)
          obtain ⟨A9, n9, c9, rfl, h9, hn9, hr9⟩ := HG2.out.row (Q := fun j => w6.heap.size ≤ j) (fun _ h _ => h) (fun _ h => h)
          rw [List.take_of_length_le (by have := HTL.out; omega)] at hn9 hr9
          have hlv := HG.out.lt
          obtain ⟨A5, c5, w9, hrun, hb9, hmv9, hg9⟩ := HG.out.app (t := 25) (f := 2) (X := wp) Tryz.underlying25 info46 rfl (by decide) (by omega) HXK.out (fun v' => rfl) (fun j hj => hj) (cs := #[.int .i64 x.ent, .bool x.fz, .slice A1 nv c1, .slice A9 n9 c9]) (TT := 46) (x := hidS ls kb x)
            (kSe_rep.2 ⟨_, _, _, _, _, _, rfl, HVC.out, h9, Lay.row_mono (Lay.row_ext HR1.out (HXR.out.trans HXK.out)) fun j hj _ => ⟨by have := HZ8.out; omega, fun e9 => by have := (hlv j e9).1; have := HX4.out.lt; omega⟩, by
              show kTx.row wp _ A9 n9 (hidS ls kb x).texts
              rw [HTE.out]
              exact Lay.row_mono hr9 fun j hj _ => ⟨by have := HZW.out; have := HG.out.mv.size; have := HX6.out.lt; omega, fun e9 => by have := (hlv j e9).2; have := HX6.out.lt; omega⟩⟩) 1 (by rw [List.length_take]; have := HHL.out; have := HNB.out; omega)
          obtain ⟨L, hL⟩ : ∃ L, (hs.take i).length + 1 = L := ⟨_, rfl⟩
          rw [hL] at hrun hg9
          have HRUN := Lib.hid hrun
          have HREL := Lib.hid (show HdA w4 b z8 hs (.int .i64 ((i : Int) + 1)) (w9.setCell ⟨z8, 2, none⟩ (.slice A5 L c5)) from ⟨i + 1, _, by have := HHL.out; omega, by simp, by rw [List.take_add_one, HHX.out]; exact hg9⟩)
          have HB9 := Lib.hid hb9
          have HBP := Lib.hid (HXK.out.block z8 (by have := HZW.out; have := HG.out.mv.size; omega))
          have HBK := Lib.hid HG2.out.b
          clear hrun hg9 hb9 hmv9 hn9 hr9 hlv hL h9
          have y0 := cell_of HB9.out (i := 2) rfl
          have y1 := frozen_of HB9.out 2
          have k2 := cell_of (HBP.out.trans HG.out.b) (i := 2) rfl
          have m0 := cell_of HBK.out (i := 0) rfl
          have m1 := cell_of HBK.out (i := 1) rfl
          have m2 := cell_of HBK.out (i := 2) rfl
          have m3 := cell_of HBK.out (i := 3) rfl
          go_wp2_with (first | (at_builtin; refine wpList_append_run HRUN.out rfl rfl rfl rfl rfl ?_))
          go_roundw
          case rel => exact HREL.out
          case measure => simp only [toM]; omega
        have hK : (k : Int) < (nt : Int) := by omega
        obtain ⟨vk, hvk⟩ : ∃ vk, x.vers[k]? = some vk := ⟨_, List.getElem?_eq_getElem (by have := HNV.out; omega)⟩
        obtain ⟨tk, htk⟩ : ∃ tk, x.texts[k]? = some tk := ⟨_, List.getElem?_eq_getElem (by have := HNV.out; omega)⟩
        obtain ⟨bv, ov, cv, rfl, hbv, _, hrv, hcv⟩ := Lay.row_at HR1.out hvk
        obtain ⟨bt, ot, ct, rfl, hbt, _, hrt, hct⟩ := Lay.row_at HR2.out htk
        obtain rfl : cv = [.int .i64 vk] := hrv
        obtain ⟨A3, n3, c3, A4, n4, c4, rfl, _, _, hr3, hr4⟩ := kTx_rep.1 hrt
        have v0 := hcv 0 _ rfl
        rw [show kInt.sz = 1 from rfl, Nat.mul_one, Nat.add_zero] at v0
        have t0 := hct 0 _ rfl
        have t1 := hct 1 _ rfl
        rw [kTx_sz] at t0 t1
        rw [Nat.add_zero] at t0
        have HTX := Lib.hid (HOK.out.tx x HXM.out tk (List.mem_of_getElem? htk))
        have HR3 := Lib.hid hr3
        have HR4 := Lib.hid hr4
        have HTH := Lib.hid (HHT.out k vk tk hvk htk)
        have HQT := Lib.hid (fun X (hX : Ext w3 X) => (show X.cell? ⟨bv, ov + k, none⟩ = some (.int .i64 vk) ∧ X.cell? ⟨bt, ot + k * 2, none⟩ = some (.slice A3 n3 c3) ∧ X.cell? ⟨bt, ot + k * 2 + 1, none⟩ = some (.slice A4 n4 c4) from
          ⟨(hX.cells.1 _ _ hbv).trans v0, (hX.cells.1 _ _ hbt).trans t0, (hX.cells.1 _ _ hbt).trans t1⟩))
        have HXP := Lib.hid (HXR.out.trans HXK.out)
        have HN34 := Lib.hid (show n3 = tk.paras.length ∧ n4 = tk.notes.length ∧ n3 ≤ 4 ∧ n4 ≤ 3 from by have := Lay.row_len hr3; have := Lay.row_len hr4; have := HTX.out.np; have := HTX.out.nn; omega)
        clear hvk htk hcv hct hrt hr3 hr4 v0 t0 t1 hbv hbt
        have hnv3 : nv ≤ 3 := by have := HNV.out; omega
        have hKV : (k : Int) < (nv : Int) := by have := HNV.out; omega
        go_upto_region 15 with (fail)
        clear g0 g2 g3
        obtain ⟨z13, hz13⟩ : ∃ z13, wp.heap.size = z13 := ⟨_, rfl⟩
        obtain ⟨w7, hw7⟩ : ∃ w7, wp.alloc (.cells #[.slice none 0 0, .slice none 0 0] 53) = w7 := ⟨_, rfl⟩
        rw [hw7, hz13]
        have hx7 : Ext wp w7 := by rw [← hw7]; exact (Ext.refl wp).alloc _
        have hB7 : w7.heap[z13]? = some (.cells #[.slice none 0 0, .slice none 0 0] 53 (0, 0)) := by rw [← hw7, ← hz13]; exact heap_alloc_new _ _
        have HX7 := Lib.hid hx7
        have HZT := Lib.hid (show wp.heap.size = z13 ∧ z13 < w7.heap.size from ⟨hz13, lt_of_block hB7⟩)
        have HG7 := Lib.hid (GF.start kWs 54 53 w7 z13 (fun v => #[v, .slice none 0 0]) (fun j => w7.heap.size ≤ j) hB7)
        clear hx7 hB7
        obtain ⟨hp, hhp⟩ : ∃ hp, hidPs ls x.ent vk kb 0 tk.paras = hp := ⟨_, rfl⟩
        obtain ⟨hq, hhq⟩ : ∃ hq, hidPs ls x.ent vk kb (tk.paras.flatten.length : Nat) tk.notes = hq := ⟨_, rfl⟩
        have HPA := Lib.hid (fun (j : Nat) (p : List Wd) (hj : tk.paras[j]? = some p) => show hp[j]? = some (hidP ls x.ent vk kb ((tk.paras.take j).flatten.length : Nat) p) from by
          rw [← hhp, hidPs_at ls x.ent vk kb tk.paras 0 j p hj, Int.zero_add])
        have HNA := Lib.hid (fun (j : Nat) (p : List Wd) (hj : tk.notes[j]? = some p) => show hq[j]? = some (hidP ls x.ent vk kb ((tk.paras.flatten.length + (tk.notes.take j).flatten.length : Nat) : Int) p) from by
          rw [← hhq, hidPs_at ls x.ent vk kb tk.notes _ j p hj, Int.natCast_add])
        have HPL := Lib.hid (show hp.length = n3 from by rw [← hhp, hidPs_len]; exact HN34.out.1.symm)
        have HNL := Lib.hid (show hq.length = n4 from by rw [← hhq, hidPs_len]; exact HN34.out.2.1.symm)
        have HTT := Lib.hid (show hidT ls x.ent vk kb tk = ⟨hp, hq⟩ from by rw [← hhp, ← hhq]; rfl)
        have HQG := Lib.hid (fun X (hX : Ext wp X) => (show (X.cell? ⟨z10, 0, none⟩ = some (.int .i64 x.ent) ∧ X.cell? ⟨z10, 2, none⟩ = some (.slice (some ⟨bv, ov, none⟩) nv c1) ∧ X.cell? ⟨z10, 3, none⟩ = some (.slice (some ⟨bt, ot, none⟩) nt c2)) ∧ X.cell? ⟨bv, ov + k, none⟩ = some (.int .i64 vk) ∧ X.cell? ⟨bt, ot + k * 2, none⟩ = some (.slice A3 n3 c3) ∧ X.cell? ⟨bt, ot + k * 2 + 1, none⟩ = some (.slice A4 n4 c4) from
          ⟨HQB.out X (HG2.out.mv.trans (Mv.of_ext hX)), HQT.out X (HXP.out.trans hX)⟩))
        clear hhp hhq hw7 hz13
        go_wp2_with fail
        have HXZ := Lib.hid (show ∀ X, Mv z13 w7 X → Ext wp X from fun X hX => hX.ext wp (by have := HZT.out; omega) HX7.out)
        go_loopw [14, 15] (fun s14 s15 W => HdP w7 z13 tk.paras hp s14 s15 W) (fun _ s15 _ => toM n3 s15)
        case atStart => exact ⟨0, _, Nat.zero_le _, rfl, rfl, HG7.out⟩
        case round =>
          rename World => wt
          obtain ⟨j, v13, hj, rfl, rfl, hg3⟩ := hrel
          have HG3 := Lib.hid hg3
          have HXT := Lib.hid (HXZ.out wt hg3.mv)
          have hj9 : j ≤ n3 := by have := HPL.out; omega
          have hn34 : n3 ≤ 4 := HN34.out.2.2.1
          obtain ⟨⟨g0, g2, g3⟩, v0, t0, t1⟩ := HQG.out _ HXT.out
          clear hg3
          by_cases hj3 : j < n3
          case neg =>
            have hJ : ¬ (j : Int) < (n3 : Int) := by omega
            have HFN := Lib.hid (show (tk.paras.take j).flatten.length = tk.paras.flatten.length from by rw [List.take_of_length_le (by have := HN34.out; omega)])
            rw [HFN.out]
            obtain ⟨AP, nP, cP, rfl, hP1, hP2, hP3⟩ := HG3.out.row (Q := fun j => w7.heap.size ≤ j) (fun _ h _ => h) (fun _ h => h)
            rw [List.take_of_length_le (by have := HPL.out; omega)] at hP2 hP3
            have HPR := Lib.hid (And.intro hP1 hP3)
            have HGN := Lib.hid (GF.start kWs 54 53 wt z13 (fun v => #[.slice AP nP cP, v]) (fun j => wt.heap.size ≤ j) HG3.out.b)
            have HM3 := Lib.hid HG3.out.mv
            clear hP1 hP2 hP3
            obtain ⟨n0, hn0⟩ : ∃ n0, tk.paras.flatten.length = n0 := ⟨_, rfl⟩
            have HN0 := Lib.hid hn0
            rw [hn0]
            rw [hn0] at HNA
            clear hn0 HFN
            go_upto_region 20 with (fail)
            clear g0 g2 g3 v0 t0 t1
            go_wp2_with fail
            go_loopw [14, 16] (fun s14 s16 W => HdN wt z13 (.slice AP nP cP) n0 tk.notes hq s14 s16 W) (fun _ s16 _ => toM n4 s16)
            case atStart => exact ⟨0, _, Nat.zero_le _, rfl, rfl, HGN.out⟩
            case round =>
              rename World => wn
              obtain ⟨l, v14, hl, rfl, rfl, hg4⟩ := hrel
              have HG4 := Lib.hid hg4
              have HM4 := Lib.hid (HM3.out.trans hg4.mv)
              have HXN := Lib.hid (HXZ.out wn HM4.out)
              have hl9 : l ≤ n4 := by have := HNL.out; omega
              have hn43 : n4 ≤ 3 := HN34.out.2.2.2
              obtain ⟨⟨g0, g2, g3⟩, v0, t0, t1⟩ := HQG.out _ HXN.out
              clear hg4
              by_cases hl4 : l < n4
              case neg =>
                have hL4 : ¬ (l : Int) < (n4 : Int) := by omega
                have hwk : IntKind.i64.wrap ((k : Int) + 1) = (k : Int) + 1 := IntWalk.i64_in _ (by omega)
                obtain ⟨AN, nN, cN, rfl, hN1, hN2, hN3⟩ := HG4.out.row (Q := fun j => wt.heap.size ≤ j) (fun _ h _ => h) (fun _ h => h)
                rw [List.take_of_length_le (by have := HNL.out; omega)] at hN2 hN3
                have hlv := HG2.out.lt
                have hsz7 := HZT.out
                have hszt := HM3.out.size
                have hszp := HG2.out.mv.size
                have hPn : kWs.row wn (fun j => w7.heap.size ≤ j) AP nP hp := Lay.row_keep HPR.out.2 HG4.out.mv.size fun j hj hjl => HG4.out.mv.keep j (by omega) hjl
                obtain ⟨A5, c5, w9, hrun, hb9, hmv9, hg9⟩ := HG2.out.app (t := 44) (f := 3) (X := wn) Tryz.underlying44 info53 rfl (by decide) (by omega) HXN.out (fun v' => rfl) (fun j hj => by have := HZS.out; omega) (cs := #[.slice AP nP cP, .slice AN nN cN]) (TT := 53) (x := (⟨hp, hq⟩ : Tx))
                  (kTx_rep.2 ⟨_, _, _, _, _, _, rfl, HPR.out.1, hN1, Lay.row_mono hPn fun j hj _ => ⟨by omega, fun e9 => by have := (hlv j e9).2; omega⟩, Lay.row_mono hN3 fun j hj _ => ⟨by omega, fun e9 => by have := (hlv j e9).2; omega⟩⟩) 1 (by rw [List.length_take]; have := HTL.out; omega)
                obtain ⟨L, hL⟩ : ∃ L, (ht.take k).length + 1 = L := ⟨_, rfl⟩
                rw [hL] at hrun hg9
                have HRUN := Lib.hid hrun
                have HREL := Lib.hid (show HdB w6 z11 x.ent x.fz (.slice (some ⟨bv, ov, none⟩) nv c1) ht (.int .i64 ((k : Int) + 1)) (w9.setCell ⟨z11, 3, none⟩ (.slice A5 L c5)) from ⟨k + 1, _, by have := HTL.out; omega, by simp, by rw [List.take_add_one, HTH.out, HTT.out]; exact hg9⟩)
                have HB9 := Lib.hid hb9
                have HBP := Lib.hid (HXN.out.block z11 (by have := HZS.out; have := HG2.out.mv.size; omega))
                have HBK := Lib.hid HG4.out.b
                clear hrun hg9 hb9 hmv9 hN1 hN2 hN3 hlv hL hPn hsz7 hszt hszp
                have y0 := cell_of HB9.out (i := 3) rfl
                have y1 := frozen_of HB9.out 3
                have k2 := cell_of (HBP.out.trans HG2.out.b) (i := 3) rfl
                have m0 := cell_of HBK.out (i := 0) rfl
                have m1 := cell_of HBK.out (i := 1) rfl
                go_wp2_with (first | (at_builtin; refine wpList_append_run HRUN.out rfl rfl rfl rfl rfl ?_))
                go_roundw
                case rel => exact HREL.out
                case measure => simp only [toM]; omega
              have hL4 : (l : Int) < (n4 : Int) := by omega
              obtain ⟨pn, hpn⟩ : ∃ pn, tk.notes[l]? = some pn := ⟨_, List.getElem?_eq_getElem (by have := HN34.out; omega)⟩
              obtain ⟨bp, op, cp, rfl, hbp, _, hrp, hcp⟩ := Lay.row_at HR4.out hpn
              obtain ⟨A6, c6, rfl, hc6, hr6⟩ := kWs_rep.1 hrp
              obtain ⟨n6, hn6⟩ : ∃ n6, pn.length = n6 := ⟨_, rfl⟩
              rw [hn6] at hc6 hr6 hcp
              have u0 := hcp 0 _ rfl
              rw [kWs_sz, Nat.mul_one, Nat.add_zero] at u0
              have HTB6 := Lib.hid (HTX.out.tbs (p := pn) (List.mem_append_right _ (List.mem_of_getElem? hpn)))
              obtain ⟨hf1, hf2⟩ := HTX.out.flats
              have hfl := take_flat_le tk.notes l
              have HFS := Lib.hid (take_flat_succ hpn)
              have HHP := Lib.hid (HNA.out l pn hpn)
              have hn640 : n6 ≤ 40 := by have := HTB6.out.1; omega
              obtain ⟨nn, hnn⟩ : ∃ nn : Nat, n0 + (tk.notes.take l).flatten.length = nn := ⟨_, rfl⟩
              rw [hnn] at HHP ⊢
              have hnnb : nn ≤ 10000 := by have := HN0.out; omega
              have HNX := Lib.hid (show n0 + (tk.notes.take (l + 1)).flatten.length = nn + n6 from by have := HFS.out; omega)
              have HR6 := Lib.hid hr6
              have HUP := Lib.hid (fun X (hX : Ext w3 X) => (hX.cells.1 _ _ hbp).trans u0)
              clear hpn hrp hcp hc6 hr6 u0 hbp hn6 hf1 hf2 hfl hnn
              have hwj : IntKind.i64.wrap ((l : Int) + 1) = (l : Int) + 1 := IntWalk.i64_in _ (by omega)
              have hwn : IntKind.i64.wrap ((nn : Int) + (n6 : Int)) = (nn : Int) + (n6 : Int) := IntWalk.i64_in _ (by omega)
              have HQP := Lib.hid (fun X (hX : Ext wp X) (hb : X.heap[z13]? = some (.cells #[.slice AP nP cP, v14] 53 (0, 0))) => (show ((X.cell? ⟨z10, 0, none⟩ = some (.int .i64 x.ent) ∧ X.cell? ⟨z10, 2, none⟩ = some (.slice (some ⟨bv, ov, none⟩) nv c1) ∧ X.cell? ⟨z10, 3, none⟩ = some (.slice (some ⟨bt, ot, none⟩) nt c2)) ∧ X.cell? ⟨bv, ov + k, none⟩ = some (.int .i64 vk) ∧ X.cell? ⟨bt, ot + k * 2 + 1, none⟩ = some (.slice (some ⟨bp, op, none⟩) n4 c4)) ∧ X.cell? ⟨bp, op + l, none⟩ = some (.slice A6 n6 c6) ∧ X.cell? ⟨z13, 1, none⟩ = some v14 from
                have h8 := HQG.out X hX
                ⟨⟨h8.1, h8.2.1, h8.2.2.2⟩, HUP.out X (HXP.out.trans hX), cell_of hb (i := 1) rfl⟩))
              have HCA := Lib.hid (fun X (hX : Ext wp X) => replaced_any _ _ X A6 S n6 c6 m cS pn ls nn x.ent vk kb (Lay.row_ext HR6.out (HXP.out.trans hX)) (HRS.out X (HXP.out.trans hX)) (by omega) HM8.out HGS.out (by omega) HTB6.out.2)
              go_upto_region 22 with (fail)
              clear g0 g2 g3 v0 t0 t1
              have hcur : Ext wn wn.drew := (Ext.refl _).drew
              go_cut [] (fun wx => ∃ A' c', GF kWs 54 53 wt z13 (fun v => #[.slice AP nP cP, v]) (fun j => wt.heap.size ≤ j) (.slice A' (l + 1) c') (hq.take (l + 1)) wx)
              case first =>
                have hS0 : (fun X : World => ((X.cell? ⟨z10, 0, none⟩ = some (.int .i64 x.ent) ∧ X.cell? ⟨z10, 2, none⟩ = some (.slice (some ⟨bv, ov, none⟩) nv c1) ∧ X.cell? ⟨z10, 3, none⟩ = some (.slice (some ⟨bt, ot, none⟩) nt c2)) ∧ X.cell? ⟨bv, ov + k, none⟩ = some (.int .i64 vk) ∧ X.cell? ⟨bt, ot + k * 2 + 1, none⟩ = some (.slice (some ⟨bp, op, none⟩) n4 c4)) ∧ X.cell? ⟨bp, op + l, none⟩ = some (.slice A6 n6 c6) ∧ X.cell? ⟨z13, 1, none⟩ = some v14) wn.drew := HQP.out _ (HXN.out.trans hcur) ((hcur.block z13 (lt_of_block HG4.out.b)).trans HG4.out.b)
                refine wp_region_E (fun X : World => ((X.cell? ⟨z10, 0, none⟩ = some (.int .i64 x.ent) ∧ X.cell? ⟨z10, 2, none⟩ = some (.slice (some ⟨bv, ov, none⟩) nv c1) ∧ X.cell? ⟨z10, 3, none⟩ = some (.slice (some ⟨bt, ot, none⟩) nt c2)) ∧ X.cell? ⟨bv, ov + k, none⟩ = some (.int .i64 vk) ∧ X.cell? ⟨bt, ot + k * 2 + 1, none⟩ = some (.slice (some ⟨bp, op, none⟩) n4 c4)) ∧ X.cell? ⟨bp, op + l, none⟩ = some (.slice A6 n6 c6) ∧ X.cell? ⟨z13, 1, none⟩ = some v14) (fun _ => True) (fun i => i == 25) (by kernel_rfl) ?_
                refine wpE_takeS (i := 0) (d := some 118) (v := .pointer (some ⟨z13, 1, none⟩)) rfl rfl (by kernel_rfl) (by kernel_rfl) (by kernel_rfl) (by kernel_rfl) (fun _ _ _ h => h) (by rfl) ?hyn1 hS0 trivial ?gon1
                case hyn1 =>
                  intro w9 hT9
                  clear hT9; go_simp
                (try simp only [Act.put, List.setIfInBounds_toArray, List.set_cons_zero, List.set_cons_succ])
                refine wpE_takeS (i := 1) (d := some 119) (v := v14) rfl rfl (by kernel_rfl) (by kernel_rfl) (by kernel_rfl) (by kernel_rfl) (fun _ _ _ h => h) (by rfl) ?hyn2 hS0 trivial ?gon2
                case hyn2 =>
                  intro w9 hT9
                  obtain ⟨⟨⟨y0, y1, y2⟩, y3, y4⟩, y5, y6⟩ := hT9; go_simp
                (try simp only [Act.put, List.setIfInBounds_toArray, List.set_cons_zero, List.set_cons_succ])
                refine wpE_takeS (i := 2) (d := some 120) (v := .pointer (some ⟨z10, 3, none⟩)) rfl rfl (by kernel_rfl) (by kernel_rfl) (by kernel_rfl) (by kernel_rfl) (fun _ _ _ h => h) (by rfl) ?hyn3 hS0 trivial ?gon3
                case hyn3 =>
                  intro w9 hT9
                  clear hT9; go_simp
                (try simp only [Act.put, List.setIfInBounds_toArray, List.set_cons_zero, List.set_cons_succ])
                refine wpE_takeS (i := 3) (d := some 121) (v := .slice (some ⟨bt, ot, none⟩) nt c2) rfl rfl (by kernel_rfl) (by kernel_rfl) (by kernel_rfl) (by kernel_rfl) (fun _ _ _ h => h) (by rfl) ?hyn4 hS0 trivial ?gon4
                case hyn4 =>
                  intro w9 hT9
                  obtain ⟨⟨⟨y0, y1, y2⟩, y3, y4⟩, y5, y6⟩ := hT9; go_simp
                (try simp only [Act.put, List.setIfInBounds_toArray, List.set_cons_zero, List.set_cons_succ])
                refine wpE_takeS (i := 4) (d := some 122) (v := .int .i64 (k : Int)) rfl rfl (by kernel_rfl) (by kernel_rfl) (by kernel_rfl) (by kernel_rfl) (fun _ _ _ h => h) (by rfl) ?hyn5 hS0 trivial ?gon5
                case hyn5 =>
                  intro w9 hT9
                  clear hT9; go_simp
                (try simp only [Act.put, List.setIfInBounds_toArray, List.set_cons_zero, List.set_cons_succ])
                refine wpE_takeS (i := 5) (d := some 123) (v := .pointer (some ⟨bt, ot + k * 2, none⟩)) rfl rfl (by kernel_rfl) (by kernel_rfl) (by kernel_rfl) (by kernel_rfl) (fun _ _ _ h => h) (by rfl) ?hyn6 hS0 trivial ?gon6
                case hyn6 =>
                  intro w9 hT9
                  clear hT9; go_simp
                (try simp only [Act.put, List.setIfInBounds_toArray, List.set_cons_zero, List.set_cons_succ])
                refine wpE_takeS (i := 6) (d := some 124) (v := .pointer (some ⟨bt, ot + k * 2 + 1, none⟩)) rfl rfl (by kernel_rfl) (by kernel_rfl) (by kernel_rfl) (by kernel_rfl) (fun _ _ _ h => h) (by rfl) ?hyn7 hS0 trivial ?gon7
                case hyn7 =>
                  intro w9 hT9
                  clear hT9; go_simp
                (try simp only [Act.put, List.setIfInBounds_toArray, List.set_cons_zero, List.set_cons_succ])
                refine wpE_takeS (i := 7) (d := some 125) (v := .slice (some ⟨bp, op, none⟩) n4 c4) rfl rfl (by kernel_rfl) (by kernel_rfl) (by kernel_rfl) (by kernel_rfl) (fun _ _ _ h => h) (by rfl) ?hyn8 hS0 trivial ?gon8
                case hyn8 =>
                  intro w9 hT9
                  obtain ⟨⟨⟨y0, y1, y2⟩, y3, y4⟩, y5, y6⟩ := hT9; go_simp
                (try simp only [Act.put, List.setIfInBounds_toArray, List.set_cons_zero, List.set_cons_succ])
                refine wpE_takeS (i := 8) (d := some 126) (v := .int .i64 (l : Int)) rfl rfl (by kernel_rfl) (by kernel_rfl) (by kernel_rfl) (by kernel_rfl) (fun _ _ _ h => h) (by rfl) ?hyn9 hS0 trivial ?gon9
                case hyn9 =>
                  intro w9 hT9
                  clear hT9; go_simp
                (try simp only [Act.put, List.setIfInBounds_toArray, List.set_cons_zero, List.set_cons_succ])
                refine wpE_takeS (i := 9) (d := some 127) (v := .pointer (some ⟨bp, op + l, none⟩)) rfl rfl (by kernel_rfl) (by kernel_rfl) (by kernel_rfl) (by kernel_rfl) (fun _ _ _ h => h) (by rfl) ?hyn10 hS0 trivial ?gon10
                case hyn10 =>
                  intro w9 hT9
                  clear hT9; go_simp
                (try simp only [Act.put, List.setIfInBounds_toArray, List.set_cons_zero, List.set_cons_succ])
                refine wpE_takeS (i := 10) (d := some 128) (v := .slice A6 n6 c6) rfl rfl (by kernel_rfl) (by kernel_rfl) (by kernel_rfl) (by kernel_rfl) (fun _ _ _ h => h) (by rfl) ?hyn11 hS0 trivial ?gon11
                case hyn11 =>
                  intro w9 hT9
                  obtain ⟨⟨⟨y0, y1, y2⟩, y3, y4⟩, y5, y6⟩ := hT9; go_simp
                (try simp only [Act.put, List.setIfInBounds_toArray, List.set_cons_zero, List.set_cons_succ])
                refine wpE_takeS (i := 11) (d := some 129) (v := .int .i64 (nn : Int)) rfl rfl (by kernel_rfl) (by kernel_rfl) (by kernel_rfl) (by kernel_rfl) (fun _ _ _ h => h) (by rfl) ?hyn12 hS0 trivial ?gon12
                case hyn12 =>
                  intro w9 hT9
                  clear hT9; go_simp
                (try simp only [Act.put, List.setIfInBounds_toArray, List.set_cons_zero, List.set_cons_succ])
                refine wpE_takeS (i := 12) (d := some 130) (v := .pointer (some ⟨z10, 0, none⟩)) rfl rfl (by kernel_rfl) (by kernel_rfl) (by kernel_rfl) (by kernel_rfl) (fun _ _ _ h => h) (by rfl) ?hyn13 hS0 trivial ?gon13
                case hyn13 =>
                  intro w9 hT9
                  clear hT9; go_simp
                (try simp only [Act.put, List.setIfInBounds_toArray, List.set_cons_zero, List.set_cons_succ])
                refine wpE_takeS (i := 13) (d := some 131) (v := .int .i64 x.ent) rfl rfl (by kernel_rfl) (by kernel_rfl) (by kernel_rfl) (by kernel_rfl) (fun _ _ _ h => h) (by rfl) ?hyn14 hS0 trivial ?gon14
                case hyn14 =>
                  intro w9 hT9
                  obtain ⟨⟨⟨y0, y1, y2⟩, y3, y4⟩, y5, y6⟩ := hT9; go_simp
                (try simp only [Act.put, List.setIfInBounds_toArray, List.set_cons_zero, List.set_cons_succ])
                refine wpE_takeS (i := 14) (d := some 132) (v := .pointer (some ⟨z10, 2, none⟩)) rfl rfl (by kernel_rfl) (by kernel_rfl) (by kernel_rfl) (by kernel_rfl) (fun _ _ _ h => h) (by rfl) ?hyn15 hS0 trivial ?gon15
                case hyn15 =>
                  intro w9 hT9
                  clear hT9; go_simp
                (try simp only [Act.put, List.setIfInBounds_toArray, List.set_cons_zero, List.set_cons_succ])
                refine wpE_takeS (i := 15) (d := some 133) (v := .slice (some ⟨bv, ov, none⟩) nv c1) rfl rfl (by kernel_rfl) (by kernel_rfl) (by kernel_rfl) (by kernel_rfl) (fun _ _ _ h => h) (by rfl) ?hyn16 hS0 trivial ?gon16
                case hyn16 =>
                  intro w9 hT9
                  obtain ⟨⟨⟨y0, y1, y2⟩, y3, y4⟩, y5, y6⟩ := hT9; go_simp
                (try simp only [Act.put, List.setIfInBounds_toArray, List.set_cons_zero, List.set_cons_succ])
                refine wpE_takeS (i := 16) (d := some 134) (v := .int .i64 (k : Int)) rfl rfl (by kernel_rfl) (by kernel_rfl) (by kernel_rfl) (by kernel_rfl) (fun _ _ _ h => h) (by rfl) ?hyn17 hS0 trivial ?gon17
                case hyn17 =>
                  intro w9 hT9
                  clear hT9; go_simp
                (try simp only [Act.put, List.setIfInBounds_toArray, List.set_cons_zero, List.set_cons_succ])
                refine wpE_takeS (i := 17) (d := some 135) (v := .pointer (some ⟨bv, ov + k, none⟩)) rfl rfl (by kernel_rfl) (by kernel_rfl) (by kernel_rfl) (by kernel_rfl) (fun _ _ _ h => h) (by rfl) ?hyn18 hS0 trivial ?gon18
                case hyn18 =>
                  intro w9 hT9
                  clear hT9; go_simp
                (try simp only [Act.put, List.setIfInBounds_toArray, List.set_cons_zero, List.set_cons_succ])
                refine wpE_takeS (i := 18) (d := some 136) (v := .int .i64 vk) rfl rfl (by kernel_rfl) (by kernel_rfl) (by kernel_rfl) (by kernel_rfl) (fun _ _ _ h => h) (by rfl) ?hyn19 hS0 trivial ?gon19
                case hyn19 =>
                  intro w9 hT9
                  obtain ⟨⟨⟨y0, y1, y2⟩, y3, y4⟩, y5, y6⟩ := hT9; go_simp
                (try simp only [Act.put, List.setIfInBounds_toArray, List.set_cons_zero, List.set_cons_succ])
                refine wpE_takeS (i := 19) (d := some 137) (v := .slice S m cS) rfl rfl (by kernel_rfl) (by kernel_rfl) (by kernel_rfl) (by kernel_rfl) (fun _ _ _ h => h) (by rfl) ?hyn20 hS0 trivial ?gon20
                case hyn20 =>
                  intro w9 hT9
                  clear hT9; go_simp
                (try simp only [Act.put, List.setIfInBounds_toArray, List.set_cons_zero, List.set_cons_succ])
                refine wpE_takeS (i := 20) (d := some 138) (v := .string ⟨kb.toArray⟩) rfl rfl (by kernel_rfl) (by kernel_rfl) (by kernel_rfl) (by kernel_rfl) (fun _ _ _ h => h) (by rfl) ?hyn21 hS0 trivial ?gon21
                case hyn21 =>
                  intro w9 hT9
                  clear hT9; go_simp
                (try simp only [Act.put, List.setIfInBounds_toArray, List.set_cons_zero, List.set_cons_succ])
                refine wpE_all (rs := [21]) (by kernel_rfl) (by simp) ?_
                refine AllE.cons rfl (fun K hK => ?_) AllE.nil
                simp only [List.getElem_toArray, List.getElem_cons_succ, List.getElem_cons_zero]
                go_simp
                go_at_call 29
                refine (HCA.out _ (HXN.out.trans hcur)).mono ?_
                rintro z9 wg ⟨A7, n7, c7, rfl, hn7, hr7, hxg⟩
                have hcur : Ext wn wg := hcur.trans hxg
                simp only []
                refine hK.out _ _ ⟨fun _ => (HQP.out _ (HXN.out.trans hcur) ((hcur.block z13 (lt_of_block HG4.out.b)).trans HG4.out.b)), trivial⟩ (fun _ => ?_)
                clear hK K
                have hS0 := (HQP.out _ (HXN.out.trans hcur) ((hcur.block z13 (lt_of_block HG4.out.b)).trans HG4.out.b))
                (try simp only [Act.put, List.setIfInBounds_toArray, List.set_cons_zero, List.set_cons_succ])
                have hlv := HG4.out.lt
                have hl7 := Lay.row_len hr7
                have hsz := HG4.out.mv.size
                obtain ⟨A5, c5, w9, hrun, hb9, hmv9, hg9⟩ := HG4.out.app (t := 51) (f := 1) (X := wg) Tryz.underlying51 info54 rfl (by decide) (by omega) hcur (fun v' => rfl) (fun j hj => by have := HZT.out; have := HM3.out.size; omega) (cs := #[.slice A7 n7 c7]) (TT := 54) (x := hidP ls x.ent vk kb nn pn) (kWs_rep.2 ⟨A7, c7, by rw [← hl7], by omega, by rw [← hl7]; exact Lay.row_mono hr7 fun j hj _ => ⟨by have : wn.heap.size ≤ wn.drew.heap.size := Nat.le_refl _; omega, fun e9 => by have := (hlv j e9).2; have : wn.heap.size ≤ wn.drew.heap.size := Nat.le_refl _; omega⟩⟩) 1 (by rw [List.length_take]; omega)
                rw [show (hq.take l).length + 1 = l + 1 from by rw [List.length_take]; have := HNL.out; omega] at hrun hg9
                have HRUN := Lib.hid hrun
                have HXA : Ext wg (wg.alloc (.cells #[.slice A7 n7 c7] 54)) := (Ext.refl wg).alloc _
                have HGF := Lib.hid (show GF kWs 54 53 wt z13 (fun v => #[.slice AP nP cP, v]) (fun j => wt.heap.size ≤ j) (.slice A5 (l + 1) c5) (hq.take (l + 1)) (w9.setCell ⟨z13, 1, none⟩ (.slice A5 (l + 1) c5)) from by rw [List.take_add_one, HHP.out]; exact hg9)
                have HB9 := Lib.hid hb9
                have HX9 := Lib.hid (HXZ.out w9 (HM3.out.trans hmv9))
                clear hrun hb9 hmv9 hg9 hlv hl7 hsz hr7 hn7
                refine wpE_all (rs := [22]) (by kernel_rfl) (by simp) ?_
                refine AllE.cons rfl (fun K hK => ?_) AllE.nil
                simp only [List.getElem_toArray, List.getElem_cons_succ, List.getElem_cons_zero]
                go_simp
                refine hK.out _ _ ⟨fun _ => (HQP.out _ (HXN.out.trans (hcur.trans HXA)) (((hcur.trans HXA).block z13 (lt_of_block HG4.out.b)).trans HG4.out.b)), trivial⟩ (fun _ => ?_)
                clear hK K
                have hS0 := (HQP.out _ (HXN.out.trans (hcur.trans HXA)) (((hcur.trans HXA).block z13 (lt_of_block HG4.out.b)).trans HG4.out.b))
                (try simp only [Act.put, List.setIfInBounds_toArray, List.set_cons_zero, List.set_cons_succ])
                refine wpE_all (rs := [23]) (by kernel_rfl) (by simp) ?_
                refine AllE.cons rfl (fun K hK => ?_) AllE.nil
                simp only [List.getElem_toArray, List.getElem_cons_succ, List.getElem_cons_zero]
                refine step_append_tm (s := .tmp 119) (x := .tmp 140) HRUN.out rfl rfl rfl rfl rfl ?_
                refine hK.out _ _ ⟨fun _ => (HQP.out _ HX9.out HB9.out), trivial⟩ (fun _ => ?_)
                clear hK K
                have hS0 := (HQP.out _ HX9.out HB9.out)
                (try simp only [Act.put, List.setIfInBounds_toArray, List.set_cons_zero, List.set_cons_succ])
                refine wpE_all (rs := [24]) (by kernel_rfl) (by simp) ?_
                refine AllE.cons rfl (fun K hK => ?_) AllE.nil
                simp only [List.getElem_toArray, List.getElem_cons_succ, List.getElem_cons_zero]
                go_simp
                refine hK.out _ _ ⟨fun _ => (HQP.out _ HX9.out HB9.out), trivial⟩ (fun _ => ?_)
                clear hK K
                have hS0 := (HQP.out _ HX9.out HB9.out)
                (try simp only [Act.put, List.setIfInBounds_toArray, List.set_cons_zero, List.set_cons_succ])
                have y1 := cell_of HB9.out (i := 1) rfl
                have y2 := frozen_of HB9.out 1
                refine wpE_all (rs := [25]) (by kernel_rfl) (by simp) ?_
                refine AllE.cons rfl (fun K hK => ?_) AllE.nil
                simp only [List.getElem_toArray, List.getElem_cons_succ, List.getElem_cons_zero]
                go_simp
                refine hK.out _ _ ⟨fun h => absurd h (by simp), trivial⟩ (fun _ => ?_)
                clear hK K
                (try simp only [Act.put, List.setIfInBounds_toArray, List.set_cons_zero, List.set_cons_succ])
                refine wpE_done (by kernel_rfl) ?_ _
                go_wp2
                go_meet
                case rel => exact ⟨A5, c5, HGF.out⟩
              case rest =>
                obtain ⟨A', c', hg⟩ := hcut
                have HREL := Lib.hid (show HdN wt z13 (.slice AP nP cP) n0 tk.notes hq (.int .i64 ((nn : Int) + (n6 : Int))) (.int .i64 ((l : Int) + 1)) wc from ⟨l + 1, _, by have := HNL.out; omega, by simp, by rw [HNX.out]; rfl, hg⟩)
                have HMC := Lib.hid (HM3.out.trans hg.mv)
                clear hg hcur
                obtain ⟨⟨g0, g2, g3⟩, v0, t0, t1⟩ := HQG.out _ (HXZ.out _ HMC.out)
                have u0 := HUP.out _ (HXP.out.trans (HXZ.out _ HMC.out))
                go_wp2_with fail
                go_roundw
                case rel => exact HREL.out
                case measure => simp only [toM]; omega
          have hJ : (j : Int) < (n3 : Int) := by omega
          obtain ⟨pn, hpn⟩ : ∃ pn, tk.paras[j]? = some pn := ⟨_, List.getElem?_eq_getElem (by have := HN34.out; omega)⟩
          obtain ⟨bp, op, cp, rfl, hbp, _, hrp, hcp⟩ := Lay.row_at HR3.out hpn
          obtain ⟨A6, c6, rfl, hc6, hr6⟩ := kWs_rep.1 hrp
          obtain ⟨n6, hn6⟩ : ∃ n6, pn.length = n6 := ⟨_, rfl⟩
          rw [hn6] at hc6 hr6 hcp
          have u0 := hcp 0 _ rfl
          rw [kWs_sz, Nat.mul_one, Nat.add_zero] at u0
          have HTB6 := Lib.hid (HTX.out.tbs (p := pn) (List.mem_append_left _ (List.mem_of_getElem? hpn)))
          obtain ⟨hf1, hf2⟩ := HTX.out.flats
          have hfl := take_flat_le tk.paras j
          have HFS := Lib.hid (take_flat_succ hpn)
          have HHP := Lib.hid (HPA.out j pn hpn)
          have hn640 : n6 ≤ 40 := by have := HTB6.out.1; omega
          obtain ⟨nn, hnn⟩ : ∃ nn : Nat, (tk.paras.take j).flatten.length = nn := ⟨_, rfl⟩
          rw [hnn] at HHP ⊢
          have hnnb : nn ≤ 10000 := by omega
          have HNX := Lib.hid (show (tk.paras.take (j + 1)).flatten.length = nn + n6 from by have := HFS.out; omega)
          have HR6 := Lib.hid hr6
          have HUP := Lib.hid (fun X (hX : Ext w3 X) => (hX.cells.1 _ _ hbp).trans u0)
          clear hpn hrp hcp hc6 hr6 u0 hbp hn6 hf1 hf2 hfl hnn
          have hwj : IntKind.i64.wrap ((j : Int) + 1) = (j : Int) + 1 := IntWalk.i64_in _ (by omega)
          have hwn : IntKind.i64.wrap ((nn : Int) + (n6 : Int)) = (nn : Int) + (n6 : Int) := IntWalk.i64_in _ (by omega)
          have HQP := Lib.hid (fun X (hX : Ext wp X) (hb : X.heap[z13]? = some (.cells #[v13, .slice none 0 0] 53 (0, 0))) => (show ((X.cell? ⟨z10, 0, none⟩ = some (.int .i64 x.ent) ∧ X.cell? ⟨z10, 2, none⟩ = some (.slice (some ⟨bv, ov, none⟩) nv c1) ∧ X.cell? ⟨z10, 3, none⟩ = some (.slice (some ⟨bt, ot, none⟩) nt c2)) ∧ X.cell? ⟨bv, ov + k, none⟩ = some (.int .i64 vk) ∧ X.cell? ⟨bt, ot + k * 2, none⟩ = some (.slice (some ⟨bp, op, none⟩) n3 c3)) ∧ X.cell? ⟨bp, op + j, none⟩ = some (.slice A6 n6 c6) ∧ X.cell? ⟨z13, 0, none⟩ = some v13 from
            have h8 := HQG.out X hX
            ⟨⟨h8.1, h8.2.1, h8.2.2.1⟩, HUP.out X (HXP.out.trans hX), cell_of hb (i := 0) rfl⟩))
          have HCA := Lib.hid (fun X (hX : Ext wp X) => replaced_any _ _ X A6 S n6 c6 m cS pn ls nn x.ent vk kb (Lay.row_ext HR6.out (HXP.out.trans hX)) (HRS.out X (HXP.out.trans hX)) (by omega) HM8.out HGS.out (by omega) HTB6.out.2)
          go_upto_region 17 with (fail)
          clear g0 g2 g3 v0 t0 t1
          have hcur : Ext wt wt.drew := (Ext.refl _).drew
          go_cut [] (fun wx => ∃ A' c', GF kWs 54 53 w7 z13 (fun v => #[v, .slice none 0 0]) (fun j => w7.heap.size ≤ j) (.slice A' (j + 1) c') (hp.take (j + 1)) wx)
          case first =>
            have hS0 : (fun X : World => ((X.cell? ⟨z10, 0, none⟩ = some (.int .i64 x.ent) ∧ X.cell? ⟨z10, 2, none⟩ = some (.slice (some ⟨bv, ov, none⟩) nv c1) ∧ X.cell? ⟨z10, 3, none⟩ = some (.slice (some ⟨bt, ot, none⟩) nt c2)) ∧ X.cell? ⟨bv, ov + k, none⟩ = some (.int .i64 vk) ∧ X.cell? ⟨bt, ot + k * 2, none⟩ = some (.slice (some ⟨bp, op, none⟩) n3 c3)) ∧ X.cell? ⟨bp, op + j, none⟩ = some (.slice A6 n6 c6) ∧ X.cell? ⟨z13, 0, none⟩ = some v13) wt.drew := HQP.out _ (HXT.out.trans hcur) ((hcur.block z13 (lt_of_block HG3.out.b)).trans HG3.out.b)
            refine wp_region_E (fun X : World => ((X.cell? ⟨z10, 0, none⟩ = some (.int .i64 x.ent) ∧ X.cell? ⟨z10, 2, none⟩ = some (.slice (some ⟨bv, ov, none⟩) nv c1) ∧ X.cell? ⟨z10, 3, none⟩ = some (.slice (some ⟨bt, ot, none⟩) nt c2)) ∧ X.cell? ⟨bv, ov + k, none⟩ = some (.int .i64 vk) ∧ X.cell? ⟨bt, ot + k * 2, none⟩ = some (.slice (some ⟨bp, op, none⟩) n3 c3)) ∧ X.cell? ⟨bp, op + j, none⟩ = some (.slice A6 n6 c6) ∧ X.cell? ⟨z13, 0, none⟩ = some v13) (fun _ => True) (fun i => i == 25) (by kernel_rfl) ?_
            refine wpE_takeS (i := 0) (d := some 70) (v := .pointer (some ⟨z13, 0, none⟩)) rfl rfl (by kernel_rfl) (by kernel_rfl) (by kernel_rfl) (by kernel_rfl) (fun _ _ _ h => h) (by rfl) ?hyp1 hS0 trivial ?gop1
            case hyp1 =>
              intro w9 hT9
              clear hT9; go_simp
            (try simp only [Act.put, List.setIfInBounds_toArray, List.set_cons_zero, List.set_cons_succ])
            refine wpE_takeS (i := 1) (d := some 71) (v := v13) rfl rfl (by kernel_rfl) (by kernel_rfl) (by kernel_rfl) (by kernel_rfl) (fun _ _ _ h => h) (by rfl) ?hyp2 hS0 trivial ?gop2
            case hyp2 =>
              intro w9 hT9
              obtain ⟨⟨⟨y0, y1, y2⟩, y3, y4⟩, y5, y6⟩ := hT9; go_simp
            (try simp only [Act.put, List.setIfInBounds_toArray, List.set_cons_zero, List.set_cons_succ])
            refine wpE_takeS (i := 2) (d := some 72) (v := .pointer (some ⟨z10, 3, none⟩)) rfl rfl (by kernel_rfl) (by kernel_rfl) (by kernel_rfl) (by kernel_rfl) (fun _ _ _ h => h) (by rfl) ?hyp3 hS0 trivial ?gop3
            case hyp3 =>
              intro w9 hT9
              clear hT9; go_simp
            (try simp only [Act.put, List.setIfInBounds_toArray, List.set_cons_zero, List.set_cons_succ])
            refine wpE_takeS (i := 3) (d := some 73) (v := .slice (some ⟨bt, ot, none⟩) nt c2) rfl rfl (by kernel_rfl) (by kernel_rfl) (by kernel_rfl) (by kernel_rfl) (fun _ _ _ h => h) (by rfl) ?hyp4 hS0 trivial ?gop4
            case hyp4 =>
              intro w9 hT9
              obtain ⟨⟨⟨y0, y1, y2⟩, y3, y4⟩, y5, y6⟩ := hT9; go_simp
            (try simp only [Act.put, List.setIfInBounds_toArray, List.set_cons_zero, List.set_cons_succ])
            refine wpE_takeS (i := 4) (d := some 74) (v := .int .i64 (k : Int)) rfl rfl (by kernel_rfl) (by kernel_rfl) (by kernel_rfl) (by kernel_rfl) (fun _ _ _ h => h) (by rfl) ?hyp5 hS0 trivial ?gop5
            case hyp5 =>
              intro w9 hT9
              clear hT9; go_simp
            (try simp only [Act.put, List.setIfInBounds_toArray, List.set_cons_zero, List.set_cons_succ])
            refine wpE_takeS (i := 5) (d := some 75) (v := .pointer (some ⟨bt, ot + k * 2, none⟩)) rfl rfl (by kernel_rfl) (by kernel_rfl) (by kernel_rfl) (by kernel_rfl) (fun _ _ _ h => h) (by rfl) ?hyp6 hS0 trivial ?gop6
            case hyp6 =>
              intro w9 hT9
              clear hT9; go_simp
            (try simp only [Act.put, List.setIfInBounds_toArray, List.set_cons_zero, List.set_cons_succ])
            refine wpE_takeS (i := 6) (d := some 76) (v := .pointer (some ⟨bt, ot + k * 2, none⟩)) rfl rfl (by kernel_rfl) (by kernel_rfl) (by kernel_rfl) (by kernel_rfl) (fun _ _ _ h => h) (by rfl) ?hyp7 hS0 trivial ?gop7
            case hyp7 =>
              intro w9 hT9
              clear hT9; go_simp
            (try simp only [Act.put, List.setIfInBounds_toArray, List.set_cons_zero, List.set_cons_succ])
            refine wpE_takeS (i := 7) (d := some 77) (v := .slice (some ⟨bp, op, none⟩) n3 c3) rfl rfl (by kernel_rfl) (by kernel_rfl) (by kernel_rfl) (by kernel_rfl) (fun _ _ _ h => h) (by rfl) ?hyp8 hS0 trivial ?gop8
            case hyp8 =>
              intro w9 hT9
              obtain ⟨⟨⟨y0, y1, y2⟩, y3, y4⟩, y5, y6⟩ := hT9; go_simp
            (try simp only [Act.put, List.setIfInBounds_toArray, List.set_cons_zero, List.set_cons_succ])
            refine wpE_takeS (i := 8) (d := some 78) (v := .int .i64 (j : Int)) rfl rfl (by kernel_rfl) (by kernel_rfl) (by kernel_rfl) (by kernel_rfl) (fun _ _ _ h => h) (by rfl) ?hyp9 hS0 trivial ?gop9
            case hyp9 =>
              intro w9 hT9
              clear hT9; go_simp
            (try simp only [Act.put, List.setIfInBounds_toArray, List.set_cons_zero, List.set_cons_succ])
            refine wpE_takeS (i := 9) (d := some 79) (v := .pointer (some ⟨bp, op + j, none⟩)) rfl rfl (by kernel_rfl) (by kernel_rfl) (by kernel_rfl) (by kernel_rfl) (fun _ _ _ h => h) (by rfl) ?hyp10 hS0 trivial ?gop10
            case hyp10 =>
              intro w9 hT9
              clear hT9; go_simp
            (try simp only [Act.put, List.setIfInBounds_toArray, List.set_cons_zero, List.set_cons_succ])
            refine wpE_takeS (i := 10) (d := some 80) (v := .slice A6 n6 c6) rfl rfl (by kernel_rfl) (by kernel_rfl) (by kernel_rfl) (by kernel_rfl) (fun _ _ _ h => h) (by rfl) ?hyp11 hS0 trivial ?gop11
            case hyp11 =>
              intro w9 hT9
              obtain ⟨⟨⟨y0, y1, y2⟩, y3, y4⟩, y5, y6⟩ := hT9; go_simp
            (try simp only [Act.put, List.setIfInBounds_toArray, List.set_cons_zero, List.set_cons_succ])
            refine wpE_takeS (i := 11) (d := some 81) (v := .int .i64 (nn : Int)) rfl rfl (by kernel_rfl) (by kernel_rfl) (by kernel_rfl) (by kernel_rfl) (fun _ _ _ h => h) (by rfl) ?hyp12 hS0 trivial ?gop12
            case hyp12 =>
              intro w9 hT9
              clear hT9; go_simp
            (try simp only [Act.put, List.setIfInBounds_toArray, List.set_cons_zero, List.set_cons_succ])
            refine wpE_takeS (i := 12) (d := some 82) (v := .pointer (some ⟨z10, 0, none⟩)) rfl rfl (by kernel_rfl) (by kernel_rfl) (by kernel_rfl) (by kernel_rfl) (fun _ _ _ h => h) (by rfl) ?hyp13 hS0 trivial ?gop13
            case hyp13 =>
              intro w9 hT9
              clear hT9; go_simp
            (try simp only [Act.put, List.setIfInBounds_toArray, List.set_cons_zero, List.set_cons_succ])
            refine wpE_takeS (i := 13) (d := some 83) (v := .int .i64 x.ent) rfl rfl (by kernel_rfl) (by kernel_rfl) (by kernel_rfl) (by kernel_rfl) (fun _ _ _ h => h) (by rfl) ?hyp14 hS0 trivial ?gop14
            case hyp14 =>
              intro w9 hT9
              obtain ⟨⟨⟨y0, y1, y2⟩, y3, y4⟩, y5, y6⟩ := hT9; go_simp
            (try simp only [Act.put, List.setIfInBounds_toArray, List.set_cons_zero, List.set_cons_succ])
            refine wpE_takeS (i := 14) (d := some 84) (v := .pointer (some ⟨z10, 2, none⟩)) rfl rfl (by kernel_rfl) (by kernel_rfl) (by kernel_rfl) (by kernel_rfl) (fun _ _ _ h => h) (by rfl) ?hyp15 hS0 trivial ?gop15
            case hyp15 =>
              intro w9 hT9
              clear hT9; go_simp
            (try simp only [Act.put, List.setIfInBounds_toArray, List.set_cons_zero, List.set_cons_succ])
            refine wpE_takeS (i := 15) (d := some 85) (v := .slice (some ⟨bv, ov, none⟩) nv c1) rfl rfl (by kernel_rfl) (by kernel_rfl) (by kernel_rfl) (by kernel_rfl) (fun _ _ _ h => h) (by rfl) ?hyp16 hS0 trivial ?gop16
            case hyp16 =>
              intro w9 hT9
              obtain ⟨⟨⟨y0, y1, y2⟩, y3, y4⟩, y5, y6⟩ := hT9; go_simp
            (try simp only [Act.put, List.setIfInBounds_toArray, List.set_cons_zero, List.set_cons_succ])
            refine wpE_takeS (i := 16) (d := some 86) (v := .int .i64 (k : Int)) rfl rfl (by kernel_rfl) (by kernel_rfl) (by kernel_rfl) (by kernel_rfl) (fun _ _ _ h => h) (by rfl) ?hyp17 hS0 trivial ?gop17
            case hyp17 =>
              intro w9 hT9
              clear hT9; go_simp
            (try simp only [Act.put, List.setIfInBounds_toArray, List.set_cons_zero, List.set_cons_succ])
            refine wpE_takeS (i := 17) (d := some 87) (v := .pointer (some ⟨bv, ov + k, none⟩)) rfl rfl (by kernel_rfl) (by kernel_rfl) (by kernel_rfl) (by kernel_rfl) (fun _ _ _ h => h) (by rfl) ?hyp18 hS0 trivial ?gop18
            case hyp18 =>
              intro w9 hT9
              clear hT9; go_simp
            (try simp only [Act.put, List.setIfInBounds_toArray, List.set_cons_zero, List.set_cons_succ])
            refine wpE_takeS (i := 18) (d := some 88) (v := .int .i64 vk) rfl rfl (by kernel_rfl) (by kernel_rfl) (by kernel_rfl) (by kernel_rfl) (fun _ _ _ h => h) (by rfl) ?hyp19 hS0 trivial ?gop19
            case hyp19 =>
              intro w9 hT9
              obtain ⟨⟨⟨y0, y1, y2⟩, y3, y4⟩, y5, y6⟩ := hT9; go_simp
            (try simp only [Act.put, List.setIfInBounds_toArray, List.set_cons_zero, List.set_cons_succ])
            refine wpE_takeS (i := 19) (d := some 89) (v := .slice S m cS) rfl rfl (by kernel_rfl) (by kernel_rfl) (by kernel_rfl) (by kernel_rfl) (fun _ _ _ h => h) (by rfl) ?hyp20 hS0 trivial ?gop20
            case hyp20 =>
              intro w9 hT9
              clear hT9; go_simp
            (try simp only [Act.put, List.setIfInBounds_toArray, List.set_cons_zero, List.set_cons_succ])
            refine wpE_takeS (i := 20) (d := some 90) (v := .string ⟨kb.toArray⟩) rfl rfl (by kernel_rfl) (by kernel_rfl) (by kernel_rfl) (by kernel_rfl) (fun _ _ _ h => h) (by rfl) ?hyp21 hS0 trivial ?gop21
            case hyp21 =>
              intro w9 hT9
              clear hT9; go_simp
            (try simp only [Act.put, List.setIfInBounds_toArray, List.set_cons_zero, List.set_cons_succ])
            refine wpE_all (rs := [21]) (by kernel_rfl) (by simp) ?_
            refine AllE.cons rfl (fun K hK => ?_) AllE.nil
            simp only [List.getElem_toArray, List.getElem_cons_succ, List.getElem_cons_zero]
            go_simp
            go_at_call 29
            refine (HCA.out _ (HXT.out.trans hcur)).mono ?_
            rintro z9 wg ⟨A7, n7, c7, rfl, hn7, hr7, hxg⟩
            have hcur : Ext wt wg := hcur.trans hxg
            simp only []
            refine hK.out _ _ ⟨fun _ => (HQP.out _ (HXT.out.trans hcur) ((hcur.block z13 (lt_of_block HG3.out.b)).trans HG3.out.b)), trivial⟩ (fun _ => ?_)
            clear hK K
            have hS0 := (HQP.out _ (HXT.out.trans hcur) ((hcur.block z13 (lt_of_block HG3.out.b)).trans HG3.out.b))
            (try simp only [Act.put, List.setIfInBounds_toArray, List.set_cons_zero, List.set_cons_succ])
            have hlv := HG3.out.lt
            have hl7 := Lay.row_len hr7
            have hsz := HG3.out.mv.size
            obtain ⟨A5, c5, w9, hrun, hb9, hmv9, hg9⟩ := HG3.out.app (t := 51) (f := 0) (X := wg) Tryz.underlying51 info54 rfl (by decide) (by omega) hcur (fun v' => rfl) (fun j hj => by have := HZT.out; omega) (cs := #[.slice A7 n7 c7]) (TT := 54) (x := hidP ls x.ent vk kb nn pn) (kWs_rep.2 ⟨A7, c7, by rw [← hl7], by omega, by rw [← hl7]; exact Lay.row_mono hr7 fun j hj _ => ⟨by have : wt.heap.size ≤ wt.drew.heap.size := Nat.le_refl _; omega, fun e9 => by have := (hlv j e9).2; have : wt.heap.size ≤ wt.drew.heap.size := Nat.le_refl _; omega⟩⟩) 1 (by rw [List.length_take]; omega)
            rw [show (hp.take j).length + 1 = j + 1 from by rw [List.length_take]; have := HPL.out; omega] at hrun hg9
            have HRUN := Lib.hid hrun
            have HXA : Ext wg (wg.alloc (.cells #[.slice A7 n7 c7] 54)) := (Ext.refl wg).alloc _
            have HGF := Lib.hid (show GF kWs 54 53 w7 z13 (fun v => #[v, .slice none 0 0]) (fun j => w7.heap.size ≤ j) (.slice A5 (j + 1) c5) (hp.take (j + 1)) (w9.setCell ⟨z13, 0, none⟩ (.slice A5 (j + 1) c5)) from by rw [List.take_add_one, HHP.out]; exact hg9)
            have HB9 := Lib.hid hb9
            have HX9 := Lib.hid (HXZ.out w9 (hmv9))
            clear hrun hb9 hmv9 hg9 hlv hl7 hsz hr7 hn7
            refine wpE_all (rs := [22]) (by kernel_rfl) (by simp) ?_
            refine AllE.cons rfl (fun K hK => ?_) AllE.nil
            simp only [List.getElem_toArray, List.getElem_cons_succ, List.getElem_cons_zero]
            go_simp
            refine hK.out _ _ ⟨fun _ => (HQP.out _ (HXT.out.trans (hcur.trans HXA)) (((hcur.trans HXA).block z13 (lt_of_block HG3.out.b)).trans HG3.out.b)), trivial⟩ (fun _ => ?_)
            clear hK K
            have hS0 := (HQP.out _ (HXT.out.trans (hcur.trans HXA)) (((hcur.trans HXA).block z13 (lt_of_block HG3.out.b)).trans HG3.out.b))
            (try simp only [Act.put, List.setIfInBounds_toArray, List.set_cons_zero, List.set_cons_succ])
            refine wpE_all (rs := [23]) (by kernel_rfl) (by simp) ?_
            refine AllE.cons rfl (fun K hK => ?_) AllE.nil
            simp only [List.getElem_toArray, List.getElem_cons_succ, List.getElem_cons_zero]
            refine step_append_tm (s := .tmp 71) (x := .tmp 92) HRUN.out rfl rfl rfl rfl rfl ?_
            refine hK.out _ _ ⟨fun _ => (HQP.out _ HX9.out HB9.out), trivial⟩ (fun _ => ?_)
            clear hK K
            have hS0 := (HQP.out _ HX9.out HB9.out)
            (try simp only [Act.put, List.setIfInBounds_toArray, List.set_cons_zero, List.set_cons_succ])
            refine wpE_all (rs := [24]) (by kernel_rfl) (by simp) ?_
            refine AllE.cons rfl (fun K hK => ?_) AllE.nil
            simp only [List.getElem_toArray, List.getElem_cons_succ, List.getElem_cons_zero]
            go_simp
            refine hK.out _ _ ⟨fun _ => (HQP.out _ HX9.out HB9.out), trivial⟩ (fun _ => ?_)
            clear hK K
            have hS0 := (HQP.out _ HX9.out HB9.out)
            (try simp only [Act.put, List.setIfInBounds_toArray, List.set_cons_zero, List.set_cons_succ])
            have y1 := cell_of HB9.out (i := 0) rfl
            have y2 := frozen_of HB9.out 0
            refine wpE_all (rs := [25]) (by kernel_rfl) (by simp) ?_
            refine AllE.cons rfl (fun K hK => ?_) AllE.nil
            simp only [List.getElem_toArray, List.getElem_cons_succ, List.getElem_cons_zero]
            go_simp
            refine hK.out _ _ ⟨fun h => absurd h (by simp), trivial⟩ (fun _ => ?_)
            clear hK K
            (try simp only [Act.put, List.setIfInBounds_toArray, List.set_cons_zero, List.set_cons_succ])
            refine wpE_done (by kernel_rfl) ?_ _
            go_wp2
            go_meet
            case rel => exact ⟨A5, c5, HGF.out⟩
          case rest =>
            obtain ⟨A', c', hg⟩ := hcut
            have HREL := Lib.hid (show HdP w7 z13 tk.paras hp (.int .i64 ((nn : Int) + (n6 : Int))) (.int .i64 ((j : Int) + 1)) wc from ⟨j + 1, _, by have := HPL.out; omega, by simp, by rw [HNX.out]; rfl, hg⟩)
            have HMC := Lib.hid (hg.mv)
            clear hg hcur
            obtain ⟨⟨g0, g2, g3⟩, v0, t0, t1⟩ := HQG.out _ (HXZ.out _ HMC.out)
            have u0 := HUP.out _ (HXP.out.trans (HXZ.out _ HMC.out))
            go_wp2_with fail
            go_roundw
            case rel => exact HREL.out
            case measure => simp only [toM]; omega
end Go.Proofs.YtdbnddmncbjobaaGreatDoor

/- The law IndexHidden, in the order of the door's arguments. -/
namespace Go.Proofs.YtdbnddmncbjobaaGreatDoor
open Go Go.RowKit

theorem hidden_all (A A' : Option Addr) (c c' : Nat) (l l' : List Int) (br tb which : Int) (w : World) (h : IL w A c l) (hl : l.length ≤ 9223372036854775807) (h' : IL w A' c' l') (hl' : l'.length ≤ 9223372036854775807) (_ : -9223372036854775808 ≤ br ∧ br ≤ 9223372036854775807)
    (htb : -9223372036854775808 ≤ tb ∧ tb ≤ 9223372036854775807) (hmy : -9223372036854775808 ≤ which ∧ which ≤ 9223372036854775807) (hL : EnvW w) :
    Calls Tryz.prog 6 #[.agg #[.slice A l.length c, .slice A' l'.length c', .int .i64 br, .int .i64 tb], .int .i64 which] w fun e w' => e = .returned (.bool true) ∧ Ext w w' :=
  hidden_law A A' c c' l l' br tb which w h hl h' hl' htb hmy hL
end Go.Proofs.YtdbnddmncbjobaaGreatDoor
