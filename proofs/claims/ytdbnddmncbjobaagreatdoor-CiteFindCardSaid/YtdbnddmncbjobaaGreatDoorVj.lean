/- The reference's Page: walked. -/
import Derived.Test.YtdbnddmncbjobaaGreatDoorMj
import Derived.Test.YtdbnddmncbjobaaGreatDoorMg
namespace Go.Proofs.YtdbnddmncbjobaaGreatDoor
open Go Go.RowKit

def VjO (w1 : World) (num suf : Int) (L : List Pg) (s7 : Value) (w' : World) : Prop := ∃ i : Nat, i ≤ L.length ∧ s7 = .int .i64 i ∧ Ext w1 w' ∧ ∀ y ∈ L.take i, (decide (y.num = num ∧ y.suf = suf)) = false
theorem set6_row {k : Lay Ln} {W : World} {z : Nat} {A : Option Addr} {n : Nat} {xs : List Ln} (h : k.row W (fun j => z < j) A n xs) (u0 u1 u2 u3 u4 u5 : Value) :
    k.row ((((((W.setCell ⟨z, 0, none⟩ u0).setCell ⟨z, 1, none⟩ u1).setCell ⟨z, 2, none⟩ u2).setCell ⟨z, 3, none⟩ u3).setCell ⟨z, 4, none⟩ u4).setCell ⟨z, 5, none⟩ u5) (fun j => z < j) A n xs :=
  Lay.row_keep h (by simp) fun j hj _ => by
    have hz : j ≠ z := by omega
    rw [heap_setCell_other _ ⟨z, 5, none⟩ j _ hz, heap_setCell_other _ ⟨z, 4, none⟩ j _ hz, heap_setCell_other _ ⟨z, 3, none⟩ j _ hz, heap_setCell_other _ ⟨z, 2, none⟩ j _ hz, heap_setCell_other _ ⟨z, 1, none⟩ j _ hz, heap_setCell_other _ ⟨z, 0, none⟩ j _ hz]
theorem set6_ext {a W : World} (h : Ext a W) {z : Nat} (hz : a.heap.size ≤ z) (u0 u1 u2 u3 u4 u5 : Value) : Ext a ((((((W.setCell ⟨z, 0, none⟩ u0).setCell ⟨z, 1, none⟩ u1).setCell ⟨z, 2, none⟩ u2).setCell ⟨z, 3, none⟩ u3).setCell ⟨z, 4, none⟩ u4).setCell ⟨z, 5, none⟩ u5) :=
  (((((h.setCell (p := ⟨z, 0, none⟩) hz u0).setCell (p := ⟨z, 1, none⟩) hz u1).setCell (p := ⟨z, 2, none⟩) hz u2).setCell (p := ⟨z, 3, none⟩) hz u3).setCell (p := ⟨z, 4, none⟩) hz u4).setCell (p := ⟨z, 5, none⟩) hz u5
/-- The cells of a page's box that is zero. -/
structure PgZ (z : Nat) (X : World) : Prop where
  c0 : X.cell? ⟨z, 0, none⟩ = some (.int .i64 0)
  c1 : X.cell? ⟨z, 1, none⟩ = some (.int .i64 0)
  c2 : X.cell? ⟨z, 2, none⟩ = some (.int .i64 0)
  c3 : X.cell? ⟨z, 3, none⟩ = some (.int .i64 0)
  c4 : X.cell? ⟨z, 4, none⟩ = some (.slice none 0 0)
  c5 : X.cell? ⟨z, 5, none⟩ = some (.slice none 0 0)
  f0 : X.frozen? ⟨z, 0, none⟩ = false
  f1 : X.frozen? ⟨z, 1, none⟩ = false
  f2 : X.frozen? ⟨z, 2, none⟩ = false
  f3 : X.frozen? ⟨z, 3, none⟩ = false
  f4 : X.frozen? ⟨z, 4, none⟩ = false
  f5 : X.frozen? ⟨z, 5, none⟩ = false
theorem PgZ.of {z : Nat} {X : World} (h : X.heap[z]? = some (.cells #[.int .i64 0, .int .i64 0, .int .i64 0, .int .i64 0, .slice none 0 0, .slice none 0 0] 84 (0, 0))) : PgZ z X :=
  ⟨cell_of h (i := 0) rfl, cell_of h (i := 1) rfl, cell_of h (i := 2) rfl, cell_of h (i := 3) rfl, cell_of h (i := 4) rfl, cell_of h (i := 5) rfl, frozen_of h 0, frozen_of h 1, frozen_of h 2, frozen_of h 3, frozen_of h 4, frozen_of h 5⟩
set_option maxHeartbeats 8000000 in
set_option maxRecDepth 100000 in
theorem rpage_any (P : Nat → Prop) (w : World) (b : Bk) (num suf : Int) (A : Option Addr) (N c : Nat) (hb : BkI b) (hr : kSe.row w P A N b.secs) :
    Calls Tryz.prog 92 #[.agg #[.int .i64 b.ms, .int .i64 b.ht, .slice A N c], .agg #[.int .i64 num, .int .i64 suf]] w (PagePost w b num suf) := by
  have HPG := Lib.hid (fun X (hX : Ext w X) => rpages_any P X b A N c hb (Lay.row_ext hr hX))
  clear hr hb
  go_enter Tryz.func92, Tryz.ntmps92
  go_upto_region 1 with (fail)
  obtain ⟨W0, hW0⟩ : ∃ W0, ((w.alloc (.cells #[.int .i64 b.ms, .int .i64 b.ht, .slice A N c] 27)).alloc (.cells #[.int .i64 num, .int .i64 suf] 64)).alloc (.cells #[.int .i64 0, .int .i64 0, .int .i64 0, .int .i64 0, .slice none 0 0, .slice none 0 0] 84) = W0 := ⟨_, rfl⟩
  obtain ⟨z, hz⟩ : ∃ z, w.heap.size = z := ⟨_, rfl⟩
  have hx0 : Ext w W0 := by rw [← hW0]; exact (((Ext.refl w).alloc _).alloc _).alloc _
  have hB0 : W0.heap[z]? = some (.cells #[.int .i64 b.ms, .int .i64 b.ht, .slice A N c] 27 (0, 0)) := by rw [← hW0, ← hz, heap_alloc_old _ _ _ (by simp; omega), heap_alloc_old _ _ _ (by simp)]; exact heap_alloc_at _ _ _ _ rfl
  have hB1 : W0.heap[z + 1]? = some (.cells #[.int .i64 num, .int .i64 suf] 64 (0, 0)) := by rw [← hW0, ← hz, heap_alloc_old _ _ _ (by simp)]; exact heap_alloc_at _ _ _ _ (by simp)
  have hB2 : W0.heap[z + 1 + 1]? = some (.cells #[.int .i64 0, .int .i64 0, .int .i64 0, .int .i64 0, .slice none 0 0, .slice none 0 0] 84 (0, 0)) := by rw [← hW0, ← hz]; exact heap_alloc_at _ _ _ _ (by simp)
  obtain ⟨z2, hz2⟩ : ∃ z2, z + 1 + 1 = z2 := ⟨_, rfl⟩
  obtain ⟨z1, hz1⟩ : ∃ z1, z + 1 = z1 := ⟨_, rfl⟩
  rw [hz2] at hB2
  rw [hz1] at hB1
  rw [hW0, hz, hz2, hz1]
  have HX0 := Lib.hid hx0
  have HZ2 := Lib.hid (show w.heap.size ≤ z2 ∧ z2 < W0.heap.size from ⟨by omega, lt_of_block hB2⟩)
  have HRS := Lib.hid (fun X (hX : Ext W0 X) => PgZ.of ((hX.block _ (lt_of_block hB2)).trans hB2))
  have HLB := Lib.hid (fun X (hX : Ext W0 X) => (show X.cell? ⟨z1, 0, none⟩ = some (.int .i64 num) ∧ X.cell? ⟨z1, 1, none⟩ = some (.int .i64 suf) from
    have h9 := (hX.block _ (lt_of_block hB1)).trans hB1
    ⟨cell_of h9 (i := 0) rfl, cell_of h9 (i := 1) rfl⟩))
  have a0 := cell_of hB0 (i := 0) (u := .int .i64 b.ms) rfl
  have a1 := cell_of hB0 (i := 1) (u := .int .i64 b.ht) rfl
  have a2 := cell_of hB0 (i := 2) (u := .slice A N c) rfl
  clear hW0 hz hz1 hz2 hx0 hB0 hB1 hB2
  go_wp2_with (first | (go_at_call 58; refine (HPG.out _ HX0.out).mono ?_; rintro en w1 ⟨A1, n1, c1, rfl, hc1, hn1, hr1, hx1⟩; have HX1 := Lib.hid hx1; have HR1 := Lib.hid (Lay.row_mono (Q := fun j => z2 < j) hr1 fun j hj _ => by have := HZ2.out.2; omega); clear hx1 hr1))
  have HN1 := Lib.hid (Lay.row_len HR1.out)
  obtain ⟨L, hL⟩ : ∃ L, pagesB b = L := ⟨_, rfl⟩
  have HPP := Lib.hid (show pageP b num suf = L.find? (fun p => decide (p.num = num ∧ p.suf = suf)) by rw [← hL]; rfl)
  rw [hL] at HR1 HN1
  clear hL a0 a1 a2 hc1
  go_loopw [7] (fun s7 w' => VjO w1 num suf L s7 w') (fun s7 _ => toM n1 s7)
  case atStart => exact ⟨0, by omega, rfl, Ext.refl _, by simp⟩
  case round =>
    obtain ⟨i, hi, rfl, hx, hno⟩ := hrel
    rename World => wr
    rw [← HN1.out] at hi
    have HX := Lib.hid hx
    have HNO := Lib.hid hno
    have HPZ := Lib.hid (HRS.out _ (HX1.out.trans hx))
    have HXW := Lib.hid (HX0.out.trans (HX1.out.trans hx))
    clear hx hno
    by_cases hlt : i < n1
    case neg =>
      obtain rfl : i = n1 := by omega
      have hni : ¬ ((i : Int) < (i : Int)) := by omega
      have HF := Lib.hid (show pageP b num suf = none by rw [HPP.out]; exact List.find?_eq_none.2 fun y hy => by have := HNO.out y (by rw [HN1.out, List.take_length]; exact hy); simpa using this)
      obtain ⟨k0, k1, k2, k3, k4, k5, f0, f1, f2, f3, f4, f5⟩ := HPZ.out
      go_wp2_with fail
      refine bodyPost_ret (v := .tuple #[.agg #[.int .i64 0, .int .i64 0, .int .i64 0, .int .i64 0, .slice none 0 0, .slice none 0 0], .bool false]) (by simp [results, Tryz.results92, go_sem, *]) rfl ?_
      exact .inl ⟨HF.out, rfl, set6_ext HXW.out HZ2.out.1 _ _ _ _ _ _⟩
    have hI : (i : Int) < (n1 : Int) := by omega
    obtain ⟨p, hp⟩ : ∃ p, L[i]? = some p := ⟨_, List.getElem?_eq_getElem (by have := HN1.out; omega)⟩
    obtain ⟨bp, op, cs, rfl, hbp, _, hrep, hcell⟩ := Lay.row_at (Lay.row_ext HR1.out HX.out) hp
    obtain ⟨G1, g1, e1, G2, g2, e2, rfl, hg1, hg2, hrg1, hrg2⟩ := kPg_rep.1 hrep
    have p0 := hcell 0 _ rfl
    have p1 := hcell 1 _ rfl
    have p2 := hcell 2 _ rfl
    have p3 := hcell 3 _ rfl
    have p4 := hcell 4 _ rfl
    have p5 := hcell 5 _ rfl
    rw [kPg_sz] at p0 p1 p2 p3 p4 p5
    rw [Nat.add_zero] at p0
    obtain ⟨l0, l1⟩ := HLB.out _ (HX1.out.trans HX.out)
    have HRB := Lib.hid hrg1
    have HRN := Lib.hid hrg2
    have HP := Lib.hid hp
    have HG := Lib.hid (And.intro hg1 hg2)
    clear hp hrep hcell hrg1 hrg2 hg1 hg2
    have HNEXT := Lib.hid (fun (h : ¬ (p.num = num ∧ p.suf = suf)) => (show ∀ y ∈ L.take (i + 1), (decide (y.num = num ∧ y.suf = suf)) = false from take_none HNO.out HP.out (decide_eq_false h)))
    have HFND := Lib.hid (fun (h : p.num = num ∧ p.suf = suf) => (show pageP b num suf = some p by rw [HPP.out]; exact find_take HNO.out HP.out (decide_eq_true h)))
    obtain ⟨pn, psf, pe, pv, pb, pt⟩ := p
    simp only at p0 p1 p2 p3 p4 p5 HRB HRN HNEXT HFND
    go_upto_region 5 with (fail)
    by_cases hn : pn = num
    case neg =>
      have hnb : (pn == num) = false := by rw [beq_eq_false_iff_ne]; exact hn
      have HS := Lib.hid (HNEXT.out fun e => hn e.1)
      clear HNEXT HFND
      go_quiet (fail)
      go_wp2
      go_roundw
      case rel => exact ⟨i + 1, by have := HN1.out; omega, by simp, HX.out.drewN _, HS.out⟩
      case measure => simp only [toM]; omega
    subst hn
    by_cases hs : psf = suf
    case neg =>
      have hsb : (psf == suf) = false := by rw [beq_eq_false_iff_ne]; exact hs
      have HS := Lib.hid (HNEXT.out fun e => hs e.2)
      clear HNEXT HFND
      go_quiet (fail)
      go_wp2
      go_roundw
      case rel => exact ⟨i + 1, by have := HN1.out; omega, by simp, HX.out.drewN _, HS.out⟩
      case measure => simp only [toM]; omega
    subst hs
    have HS := Lib.hid (HFND.out ⟨rfl, rfl⟩)
    clear HNEXT HFND
    obtain ⟨k0, k1, k2, k3, k4, k5, f0, f1, f2, f3, f4, f5⟩ := HPZ.out
    go_quiet (fail)
    go_wp2
    refine bodyPost_ret (v := .tuple #[.agg #[.int .i64 pn, .int .i64 psf, .int .i64 pe, .int .i64 pv, .slice G1 g1 e1, .slice G2 g2 e2], .bool true]) (by simp [results, Tryz.results92, go_sem, *]) rfl ?_
    refine .inr ⟨_, G1, g1, e1, G2, g2, e2, HS.out, rfl, HG.out.1, HG.out.2, ?_, ?_, set6_ext (HXW.out.drewN _) HZ2.out.1 _ _ _ _ _ _⟩
    · exact Lay.row_mono (set6_row (Lay.row_ext HRB.out ((Ext.refl _).drewN _)) _ _ _ _ _ _) fun j hj _ => by have := HZ2.out.1; omega
    · exact Lay.row_mono (set6_row (Lay.row_ext HRN.out ((Ext.refl _).drewN _)) _ _ _ _ _ _) fun j hj _ => by have := HZ2.out.1; omega
end Go.Proofs.YtdbnddmncbjobaaGreatDoor
