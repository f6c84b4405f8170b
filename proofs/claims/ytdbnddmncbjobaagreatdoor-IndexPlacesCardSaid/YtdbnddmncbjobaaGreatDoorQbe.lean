/- glyph.Word: walked. -/
import Derived.Test.YtdbnddmncbjobaaGreatDoorQat
import Derived.Test.YtdbnddmncbjobaaGreatDoorQbd
import Derived.Sort.Grow
namespace Go.Proofs.YtdbnddmncbjobaaGreatDoor
section
open Go Go.RowKit
attribute [local go_sem] Oper.semAt_some

theorem flatW_len (L : List (List Wd)) : L.flatten.length = wordsN L := by unfold wordsN; rw [List.length_flatten]
theorem flat_at {L : List (List Wd)} {i : Nat} {p : List Wd} (h : L[i]? = some p) {k : Nat} (h1 : wordsN (L.take i) ≤ k) (h2 : k - wordsN (L.take i) < p.length) : L.flatten[k]? = p[k - wordsN (L.take i)]? := by
  obtain ⟨hi, rfl⟩ := List.getElem?_eq_some_iff.1 h
  conv => lhs; rw [← List.take_append_drop i L, List.drop_eq_getElem_cons hi]
  rw [List.flatten_append, List.getElem?_append_right (by rw [flatW_len]; exact h1), flatW_len, List.flatten_cons, List.getElem?_append_left h2]
theorem flat_no {L : List (List Wd)} {k : Nat} (h : wordsN L ≤ k) : L.flatten[k]? = none := List.getElem?_eq_none (by rw [flatW_len]; exact h)
def wdV (x : Wd) : Value := .agg #[.string ⟨x.s.toArray⟩, .string ⟨x.key.toArray⟩, .int .i64 x.tb, .int .i64 x.nt]
def noWd : Wd := ⟨[], [], 0, 0⟩
/-- A word, or none. -/
def wdR (o : Option Wd) : Value := .tuple #[wdV (o.getD noWd), .bool o.isSome]
structure GwB (z : Nat) (x : Wd) (W : World) : Prop where
  b : W.heap[z]? = some (.cells #[.string ⟨x.s.toArray⟩, .string ⟨x.key.toArray⟩, .int .i64 x.tb, .int .i64 x.nt] 60 (0, 0))
theorem GwB.set {z : Nat} {y : Wd} {W w : World} (h : GwB z y W) (hw : w.heap.size ≤ z) (hx : Ext w W) (x : Wd) :
    GwB z x ((((W.setCell ⟨z, 0, none⟩ (.string ⟨x.s.toArray⟩)).setCell ⟨z, 1, none⟩ (.string ⟨x.key.toArray⟩)).setCell ⟨z, 2, none⟩ (.int .i64 x.tb)).setCell ⟨z, 3, none⟩ (.int .i64 x.nt)) ∧
    Ext w ((((W.setCell ⟨z, 0, none⟩ (.string ⟨x.s.toArray⟩)).setCell ⟨z, 1, none⟩ (.string ⟨x.key.toArray⟩)).setCell ⟨z, 2, none⟩ (.int .i64 x.tb)).setCell ⟨z, 3, none⟩ (.int .i64 x.nt)) :=
  ⟨⟨heap_setCell_same _ z 3 _ 60 _ (heap_setCell_same _ z 2 _ 60 _ (heap_setCell_same _ z 1 _ 60 _ (heap_setCell_same _ z 0 _ 60 _ h.b)))⟩, (((hx.setCell (p := ⟨z, 0, none⟩) hw _).setCell (p := ⟨z, 1, none⟩) hw _).setCell (p := ⟨z, 2, none⟩) hw _).setCell (p := ⟨z, 3, none⟩) hw _⟩
def GwR (w1 : World) (L : List (List Wd)) (k : Int) (s1 s18 : Value) (w' : World) : Prop := ∃ i : Nat, i ≤ L.length ∧ s18 = .int .i64 i ∧ s1 = .int .i64 (k - (wordsN (L.take i) : Nat)) ∧ (wordsN (L.take i) : Int) ≤ k ∧ w1 = w'
set_option maxHeartbeats 4000000 in
set_option maxRecDepth 100000 in
theorem gword_any (P : Nat → Prop) (w : World) (A A' : Option Addr) (n n' c c' : Nat) (t : Tx) (k : Int) (h1 : kWs.row w P A n t.paras) (h2 : kWs.row w P A' n' t.notes) (hp : t.paras.length ≤ 10000) (hn : t.notes.length ≤ 10000) (hb : wordsN (t.paras ++ t.notes) ≤ 1000000) (hk : k ≤ 9223372036854775807) :
    Calls Tryz.prog 32 #[.agg #[.slice A n c, .slice A' n' c'], .int .i64 k] w (fun e w' => e = .returned (wdR (wordT t k)) ∧ Ext w w') := by
  have HC := Lib.hid (fun X (hx : Ext w X) g hg g0 g1 => cat72 kWs rfl P X g A A' n n' c c' _ _ (Lay.row_ext h1 hx) (Lay.row_ext h2 hx) (by have := Lay.row_len h1; omega) (by have := Lay.row_len h2; omega) hg g0 g1)
  have HW := Lib.hid (show wordT t k = if k < 0 then none else (t.paras ++ t.notes).flatten[k.toNat]? from rfl)
  obtain ⟨L, hLe⟩ : ∃ L, t.paras ++ t.notes = L := ⟨_, rfl⟩
  obtain ⟨m, hm⟩ : ∃ m, L.length = m := ⟨_, rfl⟩
  have hm2 : m ≤ 20000 := by rw [← hm, ← hLe, List.length_append]; omega
  rw [hLe] at HC HW
  rw [hLe] at hb
  have HM := Lib.hid hm
  have HB := Lib.hid hb
  have HC2 := Lib.hid (fun X (hx : Ext w X) g hg g0 g1 => (show Calls Tryz.prog 72 #[.slice (some ⟨g, 0, none⟩) 2 2] X (fun e X' => ∃ A3 c3, e = .returned (.slice A3 m c3) ∧ kWs.row X' (fun j => P j ∨ X.heap.size ≤ j) A3 m L ∧ Ext X X') from by
    refine (HC.out X hx g hg g0 g1).mono ?_
    rintro e X' ⟨A3, c3, rfl, ho, hxx⟩
    obtain ⟨Ar, cr, er, _, hrow⟩ := Lay.own_row ho
    obtain ⟨e1, _, _⟩ := Value.slice.inj er
    subst hm
    rw [← e1] at hrow
    exact ⟨A3, c3, rfl, Lay.row_mono hrow fun j hj _ => hj.imp id fun hj => (Lay.own_lt ho j hj).1, hxx⟩))
  obtain ⟨o, ho⟩ : ∃ o, wordT t k = o := ⟨_, rfl⟩
  rw [ho] at HW ⊢
  clear h1 h2 hp hn hLe hm hb HC ho
  obtain ⟨z, hz⟩ : ∃ z, w.heap.size = z := ⟨_, rfl⟩
  obtain ⟨w0, hw0⟩ : ∃ w0, (w.alloc (.cells #[.slice A n c, .slice A' n' c'] 53)).alloc (.cells #[.string ⟨#[]⟩, .string ⟨#[]⟩, .int .i64 0, .int .i64 0] 60) = w0 := ⟨_, rfl⟩
  have hx0 : Ext w w0 := by rw [← hw0]; exact ((Ext.refl w).alloc _).alloc _
  have hB0 : w0.heap[z]? = some (.cells #[.slice A n c, .slice A' n' c'] 53 (0, 0)) := by
    rw [← hw0, ← hz, heap_alloc_old _ _ _ (by simp)]; exact heap_alloc_new _ _
  have hB1 : GwB (z + 1) noWd w0 := ⟨by rw [← hw0, ← hz]; exact heap_alloc_at _ _ _ _ (by simp)⟩
  have HX0 := Lib.hid hx0
  have HB1 := Lib.hid hB1
  have HZ := Lib.hid hz
  have a0 := cell_of hB0 (i := 0) (u := .slice A n c) rfl
  have a1 := cell_of hB0 (i := 1) (u := .slice A' n' c') rfl
  go_enter Tryz.func32, Tryz.ntmps32
  go_upto_region 1 with (fail)
  clear hw0 hz
  by_cases hk0 : k < 0
  · have hon : o = none := by rw [HW.out, if_pos hk0]
    subst hon
    have f0 := frozen_of hB1.b 0
    have f1 := frozen_of hB1.b 1
    have f2 := frozen_of hB1.b 2
    have f3 := frozen_of hB1.b 3
    have e0 := cell_of hB1.b (i := 0) rfl
    have e1 := cell_of hB1.b (i := 1) rfl
    have e2 := cell_of hB1.b (i := 2) rfl
    have e3 := cell_of hB1.b (i := 3) rfl
    clear hB0 hB1 hx0
    go_wp2_with fail
    obtain ⟨Y, hY⟩ : ∃ Y, ((((w0.setCell ⟨z + 1, 0, none⟩ (.string ⟨#[]⟩)).setCell ⟨z + 1, 1, none⟩ (.string ⟨#[]⟩)).setCell ⟨z + 1, 2, none⟩ (.int .i64 0)).setCell ⟨z + 1, 3, none⟩ (.int .i64 0)) = Y := ⟨_, rfl⟩
    have hg : GwB (z + 1) noWd ((((w0.setCell ⟨z + 1, 0, none⟩ (.string ⟨#[]⟩)).setCell ⟨z + 1, 1, none⟩ (.string ⟨#[]⟩)).setCell ⟨z + 1, 2, none⟩ (.int .i64 0)).setCell ⟨z + 1, 3, none⟩ (.int .i64 0)) ∧ Ext w ((((w0.setCell ⟨z + 1, 0, none⟩ (.string ⟨#[]⟩)).setCell ⟨z + 1, 1, none⟩ (.string ⟨#[]⟩)).setCell ⟨z + 1, 2, none⟩ (.int .i64 0)).setCell ⟨z + 1, 3, none⟩ (.int .i64 0)) := HB1.out.set (w := w) (by have := HZ.out; omega) HX0.out noWd
    rw [hY] at hg ⊢
    obtain ⟨g1, g2⟩ := hg
    have q0 := cell_of g1.b (i := 0) (u := .string ⟨#[]⟩) rfl
    have q1 := cell_of g1.b (i := 1) (u := .string ⟨#[]⟩) rfl
    have q2 := cell_of g1.b (i := 2) (u := .int .i64 0) rfl
    have q3 := cell_of g1.b (i := 3) (u := .int .i64 0) rfl
    refine bodyPost_ret (v := wdR none) (by simp [results, Tryz.results32, go_sem, q0, q1, q2, q3]; rfl) rfl ?_
    exact ⟨rfl, g2⟩
  have HK0 := Lib.hid hk0
  clear hk0 hB0 hB1 hx0
  go_wp2_with (first | (go_at_call 72; refine (HC2.out _ (HX0.out.alloc _) _ (by simp) (by go_simp) (by go_simp)).mono ?_; rintro e w1 ⟨A3, c3, rfl, hrow, hx⟩; have HRW := Lib.hid hrow; have HX1 := Lib.hid (((Ext.refl w0).alloc _).trans hx); clear hrow hx))
  have HBX := Lib.hid (show GwB (z + 1) noWd w1 from ⟨(HX1.out.block _ (lt_of_block HB1.out.b)).trans HB1.out.b⟩)
  have HX := Lib.hid (HX0.out.trans HX1.out)
  clear a0 a1
  go_loopw [1, 7, 18] (fun s1 _ s18 w' => GwR w1 L k s1 s18 w') (fun _ _ s18 _ => toM m s18)
  case atStart => exact ⟨0, by omega, rfl, by simp [wordsN], by have := HK0.out; simp [wordsN]; omega, rfl⟩
  case round =>
    obtain ⟨i, hi, rfl, rfl, hqk, rfl⟩ := hrel
    rw [HM.out] at hi
    have hq1 := wordsN_le L i
    have hq2 := HB.out
    have hk0' := HK0.out
    obtain ⟨q, hq⟩ : ∃ q, wordsN (L.take i) = q := ⟨_, rfl⟩
    rw [hq] at hq1 hqk ⊢
    have HQ := Lib.hid hq
    obtain ⟨kn, hkn⟩ : ∃ kn : Nat, k - (q : Int) = kn := ⟨(k - q).toNat, by omega⟩
    rw [hkn]
    have HKN := Lib.hid hkn
    have f0 := frozen_of HBX.out.b 0
    have f1 := frozen_of HBX.out.b 1
    have f2 := frozen_of HBX.out.b 2
    have f3 := frozen_of HBX.out.b 3
    have e0 := cell_of HBX.out.b (i := 0) rfl
    have e1 := cell_of HBX.out.b (i := 1) rfl
    have e2 := cell_of HBX.out.b (i := 2) rfl
    have e3 := cell_of HBX.out.b (i := 3) rfl
    by_cases hlt : i < m
    case neg =>
      obtain rfl : i = m := by omega
      have hni : ¬ ((i : Int) < (i : Int)) := by omega
      have hon : o = none := by
        rw [HW.out, if_neg (show ¬ k < 0 by have := HK0.out; omega)]
        refine flat_no ?_
        rw [← HM.out, List.take_length] at hq
        omega
      subst hon
      clear hq hkn hqk
      go_wp2_with fail
      obtain ⟨Y, hY⟩ : ∃ Y, ((((w1.setCell ⟨z + 1, 0, none⟩ (.string ⟨#[]⟩)).setCell ⟨z + 1, 1, none⟩ (.string ⟨#[]⟩)).setCell ⟨z + 1, 2, none⟩ (.int .i64 0)).setCell ⟨z + 1, 3, none⟩ (.int .i64 0)) = Y := ⟨_, rfl⟩
      have hg : GwB (z + 1) noWd ((((w1.setCell ⟨z + 1, 0, none⟩ (.string ⟨#[]⟩)).setCell ⟨z + 1, 1, none⟩ (.string ⟨#[]⟩)).setCell ⟨z + 1, 2, none⟩ (.int .i64 0)).setCell ⟨z + 1, 3, none⟩ (.int .i64 0)) ∧ Ext w ((((w1.setCell ⟨z + 1, 0, none⟩ (.string ⟨#[]⟩)).setCell ⟨z + 1, 1, none⟩ (.string ⟨#[]⟩)).setCell ⟨z + 1, 2, none⟩ (.int .i64 0)).setCell ⟨z + 1, 3, none⟩ (.int .i64 0)) := HBX.out.set (w := w) (by have := HZ.out; omega) HX.out noWd
      rw [hY] at hg ⊢
      obtain ⟨g1, g2⟩ := hg
      have q0 := cell_of g1.b (i := 0) (u := .string ⟨#[]⟩) rfl
      have q1 := cell_of g1.b (i := 1) (u := .string ⟨#[]⟩) rfl
      have q2 := cell_of g1.b (i := 2) (u := .int .i64 0) rfl
      have q3 := cell_of g1.b (i := 3) (u := .int .i64 0) rfl
      refine bodyPost_ret (v := wdR none) (by simp [results, Tryz.results32, go_sem, q0, q1, q2, q3]; rfl) rfl ?_
      exact ⟨rfl, g2⟩
    have hI : (i : Int) < (m : Int) := by omega
    obtain ⟨p, hpi⟩ : ∃ p, L[i]? = some p := ⟨_, List.getElem?_eq_getElem (by have := HM.out; omega)⟩
    obtain ⟨bl, ol, cl, rfl, hbl, _, hrl, hcl⟩ := Lay.row_at HRW.out hpi
    obtain ⟨Ap, cp, rfl, hpc, hrp⟩ := kWs_rep.1 hrl
    have d0 := hcl 0 _ rfl
    rw [show kWs.sz = 1 from rfl, Nat.mul_one, Nat.add_zero] at d0
    have hst := wordsN_take L i hpi
    have hq3 := wordsN_le L (i + 1)
    rw [hst, hq] at hq3
    by_cases hkp : kn < p.length
    · have hkI : (kn : Int) < (p.length : Int) := by omega
      obtain ⟨x, hx⟩ : ∃ x, p[kn]? = some x := ⟨_, List.getElem?_eq_getElem hkp⟩
      obtain ⟨b2, o2, cs, rfl, hb2, _, hrep, hc2⟩ := Lay.row_at hrp hx
      have hon : o = some x := by
        rw [HW.out, if_neg (show ¬ k < 0 by have := HK0.out; omega), flat_at hpi (k := k.toNat) (by rw [hq]; omega) (by rw [hq]; omega), hq, ← hx]
        congr 1
        omega
      subst hon
      rw [kWd_rep.1 hrep] at hc2
      have x0 := hc2 0 _ rfl
      have x1 := hc2 1 _ rfl
      have x2 := hc2 2 _ rfl
      have x3 := hc2 3 _ rfl
      rw [kWd_sz] at x0 x1 x2 x3
      rw [Nat.add_zero] at x0
      generalize hpl : p.length = pl at hkI d0
      clear hq hkn hqk hcl hrl hpi hrp hrep hc2 hst hq3 hkp hpc hx hpl
      go_wp2_with fail
      obtain ⟨Y, hY⟩ : ∃ Y, ((((w1.setCell ⟨z + 1, 0, none⟩ (.string ⟨x.s.toArray⟩)).setCell ⟨z + 1, 1, none⟩ (.string ⟨x.key.toArray⟩)).setCell ⟨z + 1, 2, none⟩ (.int .i64 x.tb)).setCell ⟨z + 1, 3, none⟩ (.int .i64 x.nt)) = Y := ⟨_, rfl⟩
      have hg := HBX.out.set (w := w) (by have := HZ.out; omega) HX.out x
      rw [hY] at hg ⊢
      obtain ⟨g1, g2⟩ := hg
      have q0 := cell_of g1.b (i := 0) rfl
      have q1 := cell_of g1.b (i := 1) rfl
      have q2 := cell_of g1.b (i := 2) rfl
      have q3 := cell_of g1.b (i := 3) rfl
      refine bodyPost_ret (v := wdR (some x)) (by simp [results, Tryz.results32, go_sem, q0, q1, q2, q3]; rfl) rfl ?_
      exact ⟨rfl, g2⟩
    · have hkI : ¬ ((kn : Int) < (p.length : Int)) := by omega
      have hwk : IntKind.i64.wrap ((kn : Int) - (p.length : Int)) = (kn : Int) - (p.length : Int) := IntWalk.i64_in _ (by omega)
      have HREL := Lib.hid (show GwR w1 L k (.int .i64 ((kn : Int) - (p.length : Int))) (.int .i64 ((i : Int) + 1)) w1 from ⟨i + 1, by have := HM.out; omega, by simp, by rw [hst, hq, ← hkn]; congr 1; simp only [Int.natCast_add]; omega, by rw [hst, hq]; omega, rfl⟩)
      clear hq hkn hqk hcl hrl hpi hrp hst hq3 hkp hpc
      go_wp2_with fail
      go_roundw
      case rel => exact HREL.out
      case measure => simp only [toM]; omega
end
section
open Go Go.RowKit

def WlR (w : World) (pre : List Wd) (ps : List (List Wd)) (s3 s4 : Value) (W : World) : Prop := ∃ (i : Nat) (out : Value), i ≤ ps.length ∧ s4 = .int .i64 i ∧ out = s3 ∧ kWd.own 60 W w.heap.size (fun _ => True) out (pre ++ (ps.take i).flatten) ∧ Ext w W
theorem flat_lt {ps : List (List Wd)} (h : ∀ p ∈ ps, p.length ≤ 1000) : ps.flatten.length ≤ 1000 * ps.length := by
  induction ps with
  | nil => simp
  | cons a r ih =>
    have h1 := h a (by simp)
    have h2 := ih fun p hp => h p (by simp [hp])
    simp only [List.flatten_cons, List.length_append, List.length_cons]
    omega
theorem flat_take {ps : List (List Wd)} (h : ∀ p ∈ ps, p.length ≤ 1000) (i : Nat) : (ps.take i).flatten.length ≤ 1000 * ps.length := by
  have h1 := flat_lt (ps := ps.take i) fun p hp => h p (List.mem_of_mem_take hp)
  have h2 : (ps.take i).length ≤ ps.length := by rw [List.length_take]; omega
  have h3 : 1000 * (ps.take i).length ≤ 1000 * ps.length := Nat.mul_le_mul_left _ h2
  omega
theorem flat_next {ps : List (List Wd)} {i : Nat} {p : List Wd} (h : ps[i]? = some p) (pre : List Wd) : pre ++ (ps.take i).flatten ++ p = pre ++ (ps.take (i + 1)).flatten := by
  rw [List.take_add_one, h]; simp
set_option maxHeartbeats 4000000 in
set_option maxRecDepth 100000 in
theorem words118_any (P : Nat → Prop) (w : World) (A A' : Option Addr) (n n' c c' : Nat) (t : Tx) (h1 : kWs.row w P A n t.paras) (h2 : kWs.row w P A' n' t.notes) (hn : n ≤ 10000) (hn' : n' ≤ 10000) (hp : ∀ p ∈ t.paras ++ t.notes, p.length ≤ 1000) :
    Calls Tryz.prog 118 #[.agg #[.slice A n c, .slice A' n' c']] w fun e w' => ∃ A1 n1 c1, e = .returned (.slice A1 n1 c1) ∧ n1 ≤ c1 ∧ kWd.row w' (fun _ => True) A1 n1 (t.paras ++ t.notes).flatten ∧ Ext w w' := by
  have HP1 := Lib.hid (fun p (h : p ∈ t.paras) => hp p (List.mem_append_left _ h))
  have HP2 := Lib.hid (fun p (h : p ∈ t.notes) => hp p (List.mem_append_right _ h))
  obtain ⟨w1, hw1⟩ : ∃ w1, w.alloc (.cells #[.slice A n c, .slice A' n' c'] 53) = w1 := ⟨_, rfl⟩
  have hx : Ext w w1 := by rw [← hw1]; exact (Ext.refl w).alloc _
  have hB : w1.heap[w.heap.size]? = some (.cells #[.slice A n c, .slice A' n' c'] 53 (0, 0)) := by rw [← hw1]; exact heap_alloc_new w _
  have hbl := lt_of_block hB
  have HQ := Lib.hid (fun X (hX : Ext w1 X) => (show X.cell? ⟨w.heap.size, 0, none⟩ = some (.slice A n c) ∧ X.cell? ⟨w.heap.size, 1, none⟩ = some (.slice A' n' c') from ⟨cell_of ((hX.block _ hbl).trans hB) (i := 0) rfl, cell_of ((hX.block _ hbl).trans hB) (i := 1) rfl⟩))
  have HR1 := Lib.hid (Lay.row_ext (Lay.row_mono h1 (Q := fun _ => True) fun _ _ _ => trivial) hx)
  have HR2 := Lib.hid (Lay.row_ext (Lay.row_mono h2 (Q := fun _ => True) fun _ _ _ => trivial) hx)
  have HX := Lib.hid hx
  have HL1 := Lib.hid (Lay.row_len h1)
  have HL2 := Lib.hid (Lay.row_len h2)
  have HF := Lib.hid (show t.paras.flatten.length ≤ 10000000 from by have := flat_lt HP1.out; have := HL1.out; omega)
  clear h1 h2 hx hB hbl hp
  go_enter Tryz.func118, Tryz.ntmps118
  go_upto_region 1 with (fail)
  clear hw1
  go_wp2_with fail
  go_loopw [3, 4] (fun s3 s4 W => WlR w1 [] t.paras s3 s4 W) (fun _ s4 _ => toM n s4)
  case atStart => exact ⟨0, _, Nat.zero_le _, rfl, rfl, Lay.own_nil _ _ _ _ _, Ext.refl _⟩
  case round =>
    obtain ⟨i, out, hi, rfl, rfl, ho, hxr⟩ := hrel
    have HO := Lib.hid ho
    have HXR := Lib.hid hxr
    clear ho hxr
    obtain ⟨q0, q1⟩ := HQ.out _ HXR.out
    by_cases hlt : i < n
    case pos =>
      have hI : (i : Int) < (n : Int) := by omega
      obtain ⟨p, hp⟩ : ∃ p, t.paras[i]? = some p := ⟨_, List.getElem?_eq_getElem (by have := HL1.out; omega)⟩
      obtain ⟨bb, off, cs, rfl, hb0, _, hrep, hcell⟩ := Lay.row_at HR1.out hp
      obtain ⟨Ap, cp, rfl, hcp, hrp⟩ := kWs_rep.1 hrep
      have hce := (HXR.out.cells.1 _ _ hb0).trans (hcell 0 _ rfl)
      rw [kWs_sz, Nat.mul_one, Nat.add_zero] at hce
      obtain ⟨A2, c2, w2, hrun, ho2, hx2⟩ := own_app (Pr := Tryz.prog) (t := 54) (k := kWd) Tryz.underlying54 info60c rfl (by decide) (by omega) HO.out HXR.out hrp cp (by have := flat_take HP1.out i; have := HP1.out p (List.mem_of_getElem? hp); have := HL1.out; simp only [List.nil_append]; omega)
      rw [flat_next hp] at ho2
      have HO2 := Lib.hid ho2
      have HX2 := Lib.hid hx2
      have HRUN := Lib.hid hrun
      clear ho2 hx2 hrun hrep hcell hrp hcp
      obtain ⟨L, hLL⟩ : ∃ L, p.length = L := ⟨_, rfl⟩
      rw [hLL] at hce HRUN HO2
      clear hp hLL
      obtain ⟨M, hM⟩ : ∃ M, ([] ++ (t.paras.take i).flatten).length + L = M := ⟨_, rfl⟩
      rw [hM] at HRUN HO2
      clear hM
      go_wp2_with (first | (at_builtin; refine wpList_append_run HRUN.out rfl rfl rfl rfl rfl ?_))
      go_roundw
      case rel => exact ⟨i + 1, _, by have := HL1.out; omega, by go_num, rfl, HO2.out, HX2.out⟩
      case measure => simp only [toM]; omega
    have hni : ¬ (i : Int) < (n : Int) := by omega
    have hO : kWd.own 60 wr w1.heap.size (fun _ => True) out (t.paras.flatten ++ (t.notes.take 0).flatten) := by
      have := HO.out
      rw [List.take_of_length_le (by have := HL1.out; omega)] at this
      simpa using this
    have HO0 := Lib.hid hO
    clear hO HO
    go_wp2_with fail
    go_loopw [3, 5] (fun s3 s5 W => WlR w1 t.paras.flatten t.notes s3 s5 W) (fun _ s5 _ => toM n' s5)
    case atStart => exact ⟨0, _, Nat.zero_le _, rfl, rfl, HO0.out, HXR.out⟩
    case round =>
      obtain ⟨j, out2, hj, rfl, rfl, ho, hxr⟩ := hrel
      have HO := Lib.hid ho
      have HXR2 := Lib.hid hxr
      clear ho hxr q0 q1
      obtain ⟨q0, q1⟩ := HQ.out _ HXR2.out
      by_cases hlt2 : j < n'
      case pos =>
        have hJ : (j : Int) < (n' : Int) := by omega
        obtain ⟨p, hp⟩ : ∃ p, t.notes[j]? = some p := ⟨_, List.getElem?_eq_getElem (by have := HL2.out; omega)⟩
        obtain ⟨bb, off, cs, rfl, hb0, _, hrep, hcell⟩ := Lay.row_at HR2.out hp
        obtain ⟨Ap, cp, rfl, hcp, hrp⟩ := kWs_rep.1 hrep
        have hce := (HXR2.out.cells.1 _ _ hb0).trans (hcell 0 _ rfl)
        rw [kWs_sz, Nat.mul_one, Nat.add_zero] at hce
        obtain ⟨A2, c2, w2, hrun, ho2, hx2⟩ := own_app (Pr := Tryz.prog) (t := 54) (k := kWd) Tryz.underlying54 info60c rfl (by decide) (by omega) HO.out HXR2.out hrp cp (by have := flat_take HP2.out j; have := HP2.out p (List.mem_of_getElem? hp); have := HL2.out; have := HF.out; simp only [List.length_append]; omega)
        rw [flat_next hp] at ho2
        have HO2 := Lib.hid ho2
        have HX2 := Lib.hid hx2
        have HRUN := Lib.hid hrun
        clear ho2 hx2 hrun hrep hcell hrp hcp
        obtain ⟨L, hLL⟩ : ∃ L, p.length = L := ⟨_, rfl⟩
        rw [hLL] at hce HRUN HO2
        clear hp hLL
        obtain ⟨M, hM⟩ : ∃ M, (t.paras.flatten ++ (t.notes.take j).flatten).length + L = M := ⟨_, rfl⟩
        rw [hM] at HRUN HO2
        clear hM
        go_wp2_with (first | (at_builtin; refine wpList_append_run HRUN.out rfl rfl rfl rfl rfl ?_))
        go_roundw
        case rel => exact ⟨j + 1, _, by have := HL2.out; omega, by go_num, rfl, HO2.out, HX2.out⟩
        case measure => simp only [toM]; omega
      have hnj : ¬ (j : Int) < (n' : Int) := by omega
      have hO : kWd.own 60 wr w1.heap.size (fun _ => True) out2 (t.paras ++ t.notes).flatten := by
        have := HO.out
        rw [List.take_of_length_le (by have := HL2.out; omega)] at this
        simpa using this
      obtain ⟨A9, c9, rfl, h9, hr9⟩ := Lay.own_row hO
      have HR9 := Lib.hid (Lay.row_mono hr9 (Q := fun _ => True) fun _ _ _ => trivial)
      have H9 := Lib.hid h9
      have HO9 := Lib.hid hO
      clear hr9 hO h9 HO
      obtain ⟨L, hLL⟩ : ∃ L, (t.paras ++ t.notes).flatten.length = L := ⟨_, rfl⟩
      rw [hLL] at HR9 H9
      rw [hLL]
      clear HO9 hLL
      go_wp2_with fail
      go_ret
      exact ⟨A9, L, c9, rfl, H9.out, by rw [← List.flatten_append]; exact HR9.out, HX.out.trans HXR2.out⟩
set_option maxHeartbeats 4000000 in
set_option maxRecDepth 100000 in
theorem count108_any (P : Nat → Prop) (w : World) (A A' : Option Addr) (n n' c c' : Nat) (t : Tx) (h1 : kWs.row w P A n t.paras) (h2 : kWs.row w P A' n' t.notes) (hn : n ≤ 10000) (hn' : n' ≤ 10000) (hp : ∀ p ∈ t.paras ++ t.notes, p.length ≤ 1000) :
    Calls Tryz.prog 108 #[.agg #[.slice A n c, .slice A' n' c']] w fun e w' => e = .returned (.int .i64 ((t.paras ++ t.notes).flatten.length : Nat)) ∧ Ext w w' := by
  have HW := Lib.hid (fun X (hX : Ext w X) => words118_any P X A A' n n' c c' t (Lay.row_ext h1 hX) (Lay.row_ext h2 hX) hn hn' hp)
  clear h1 h2 hn hn' hp
  obtain ⟨w1, hw1⟩ : ∃ w1, w.alloc (.cells #[.slice A n c, .slice A' n' c'] 53) = w1 := ⟨_, rfl⟩
  have hx : Ext w w1 := by rw [← hw1]; exact (Ext.refl w).alloc _
  have hB : w1.heap[w.heap.size]? = some (.cells #[.slice A n c, .slice A' n' c'] 53 (0, 0)) := by rw [← hw1]; exact heap_alloc_new w _
  have q0 := cell_of hB (i := 0) rfl
  have q1 := cell_of hB (i := 1) rfl
  have HX := Lib.hid hx
  clear hx hB
  go_enter Tryz.func108, Tryz.ntmps108
  go_upto_region 1 with (fail)
  clear hw1
  go_wp2_with (first | (go_at_call 118; refine (HW.out _ HX.out).mono ?_; rintro e w2 ⟨A1, n1, c1, rfl, hnc, hr, hx2⟩; have HN := Lib.hid (Lay.row_len hr); have HX2 := Lib.hid hx2; clear hr hx2 hnc))
  go_ret
  exact ⟨by rw [← HN.out]; rfl, HX.out.trans HX2.out⟩
end
section
open Go Go.RowKit Go.Sort
attribute [local go_sem] Oper.semAt_some

/-- The order of labels. -/
def LbLt (n s n' s' : Int) : Prop := n < n' ∨ (n = n' ∧ s < s')
instance (n s n' s' : Int) : Decidable (LbLt n s n' s') := by unfold LbLt; infer_instance
set_option maxRecDepth 100000 in
theorem rless_any (n s n' s' : Int) (w : World) : Calls Tryz.prog 124 #[.agg #[.int .i64 n, .int .i64 s], .agg #[.int .i64 n', .int .i64 s']] w fun e w' => e = .returned (.bool (decide (LbLt n s n' s'))) ∧ Ext w w' := by
  have hx : Ext w ((w.alloc (.cells #[.int .i64 n, .int .i64 s] 64)).alloc (.cells #[.int .i64 n', .int .i64 s'] 64)) := ((Ext.refl w).alloc _).alloc _
  have HX := Lib.hid hx
  clear hx
  by_cases h1 : n < n'
  · have e : decide (LbLt n s n' s') = true := by simp [LbLt, h1]
    rw [e]; clear e
    have d1 : decide (n < n') = true := by simpa using h1
    clear h1
    go_enter Tryz.func124, Tryz.ntmps124
    go_wp2_with fail
    go_ret
    exact ⟨rfl, HX.out⟩
  · have d1 : decide (n < n') = false := by simpa using h1
    by_cases h2 : n = n'
    · have e : decide (LbLt n s n' s') = decide (s < s') := by simp [LbLt, h2]
      rw [e]; clear e
      have d2 : (n == n') = true := by simpa using h2
      clear h1 h2
      go_enter Tryz.func124, Tryz.ntmps124
      go_wp2_with fail
      go_ret
      exact ⟨rfl, HX.out⟩
    · have e : decide (LbLt n s n' s') = false := by simp [LbLt, h1, h2]
      rw [e]; clear e
      have d2 : (n == n') = false := by simpa using h2
      clear h1 h2
      go_enter Tryz.func124, Tryz.ntmps124
      go_wp2_with fail
      go_ret
      exact ⟨rfl, HX.out⟩
def ctV (c : Ct) : Value := .agg #[.int .i64 c.br, .int .i64 c.nu, .int .i64 c.su, .int .i64 c.li]
set_option maxRecDepth 100000 in
theorem rbefore_any (a b : Ct) (w : World) : Calls Tryz.prog 71 #[ctV a, ctV b] w fun e w' => e = .returned (.bool (decide (CLt a b))) ∧ Ext w w' := by
  obtain ⟨r1, n1, s1, l1⟩ := a
  obtain ⟨r2, n2, s2, l2⟩ := b
  unfold ctV
  have hx : Ext w ((w.alloc (.cells #[.int .i64 r1, .int .i64 n1, .int .i64 s1, .int .i64 l1] 69)).alloc (.cells #[.int .i64 r2, .int .i64 n2, .int .i64 s2, .int .i64 l2] 69)) := ((Ext.refl w).alloc _).alloc _
  have HX := Lib.hid hx
  clear hx
  have HL := Lib.hid (fun W => rless_any n1 s1 n2 s2 W)
  by_cases h1 : r1 = r2
  · have d1 : (r1 == r2) = true := by simpa using h1
    by_cases h2 : n1 = n2 ∧ s1 = s2
    · have e : decide (CLt ⟨r1, n1, s1, l1⟩ ⟨r2, n2, s2, l2⟩) = decide (l1 < l2) := by
        obtain ⟨rfl, rfl⟩ := h2
        simp [CLt, h1]
      rw [e]; clear e
      obtain ⟨rfl, rfl⟩ := h2
      clear h1
      go_enter Tryz.func71, Tryz.ntmps71
      go_wp2_with fail
      go_ret
      exact ⟨rfl, HX.out⟩
    · have e : decide (CLt ⟨r1, n1, s1, l1⟩ ⟨r2, n2, s2, l2⟩) = decide (LbLt n1 s1 n2 s2) := by
        have : CLt ⟨r1, n1, s1, l1⟩ ⟨r2, n2, s2, l2⟩ ↔ LbLt n1 s1 n2 s2 := by simp only [CLt, LbLt]; omega
        simp only [this]
      rw [e]; clear e
      generalize decide (LbLt n1 s1 n2 s2) = r at HL ⊢
      by_cases h3 : n1 = n2
      · subst h3
        have d2 : (s1 == s2) = false := by simpa using h2
        clear h1 h2
        go_enter Tryz.func71, Tryz.ntmps71
        go_wp2_with (go_at_call 124; refine (HL.out _).mono ?_; rintro e w1 ⟨rfl, hx1⟩; have HX1 := Lib.hid hx1; clear hx1)
        go_ret
        exact ⟨rfl, HX.out.trans HX1.out⟩
      · have d2 : (n1 == n2) = false := by simpa using h3
        clear h1 h2 h3
        go_enter Tryz.func71, Tryz.ntmps71
        go_wp2_with (go_at_call 124; refine (HL.out _).mono ?_; rintro e w1 ⟨rfl, hx1⟩; have HX1 := Lib.hid hx1; clear hx1)
        go_ret
        exact ⟨rfl, HX.out.trans HX1.out⟩
  · have e : decide (CLt ⟨r1, n1, s1, l1⟩ ⟨r2, n2, s2, l2⟩) = decide (r1 < r2) := by simp [CLt, h1]
    rw [e]; clear e
    have d1 : (r1 == r2) = false := by simpa using h1
    clear h1
    go_enter Tryz.func71, Tryz.ntmps71
    go_wp2_with fail
    go_ret
    exact ⟨rfl, HX.out⟩
end
section
open Go Go.RowKit Go.Sort
attribute [local go_sem] Oper.semAt_some

def OrRel (W0 : World) (c0 c1 : Int) (s8 : Value) (w' : World) : Prop := ∃ i : Nat, i ≤ 2 ∧ s8 = .int .i64 i ∧ (1 ≤ i → c0 = 0) ∧ (2 ≤ i → c1 = 0) ∧ W0 = w'
set_option maxHeartbeats 4000000 in
set_option maxRecDepth 100000 in
theorem or_two (w : World) (b : Nat) (c0 c1 : Int) (h0 : w.cell? ⟨b, 0, none⟩ = some (.int .i64 c0)) (h1 : w.cell? ⟨b, 1, none⟩ = some (.int .i64 c1)) :
    Calls Tryz.prog 169 #[.slice (some ⟨b, 0, none⟩) 2 2] w fun e w' => e = .returned (.int .i64 (if c0 = 0 then c1 else c0)) ∧ w = w' := by
  obtain ⟨r, hr⟩ : ∃ r, (if c0 = 0 then c1 else c0) = r := ⟨_, rfl⟩
  rw [hr]
  have HR := Lib.hid hr
  clear hr
  go_enter Tryz.func169, Tryz.ntmps169
  go_wp2_with fail
  go_loopw [5, 8] (fun _ s8 w' => OrRel w c0 c1 s8 w') (fun _ s8 _ => toM 2 s8)
  case atStart => exact ⟨0, by omega, rfl, by omega, by omega, rfl⟩
  case round =>
    obtain ⟨i, hi, rfl, k0, k1, rfl⟩ := hrel
    have K0 := Lib.hid k0
    have K1 := Lib.hid k1
    clear k0 k1
    obtain rfl | rfl | rfl : i = 0 ∨ i = 1 ∨ i = 2 := by omega
    · by_cases hc : c0 = 0
      · have HC := Lib.hid hc
        have d : (c0 != 0) = false := by simpa using hc
        clear hc
        go_wp2_with fail
        go_roundw
        case rel => exact ⟨1, by omega, rfl, fun _ => HC.out, by omega, rfl⟩
        case measure => simp [toM]
      · have d : (c0 != 0) = true := by simpa using hc
        have HF := Lib.hid (show r = c0 from by rw [← HR.out, if_neg hc])
        clear hc
        go_wp2_with fail
        go_ret
        exact ⟨ret_i HF.out.symm, rfl⟩
    · have HC := Lib.hid (K0.out (by omega))
      by_cases hc : c1 = 0
      · have HC1 := Lib.hid hc
        have d : (c1 != 0) = false := by simpa using hc
        clear hc
        go_wp2_with fail
        go_roundw
        case rel => exact ⟨2, by omega, rfl, fun _ => HC.out, fun _ => HC1.out, rfl⟩
        case measure => simp [toM]
      · have d : (c1 != 0) = true := by simpa using hc
        have HF := Lib.hid (show r = c1 from by rw [← HR.out, if_pos HC.out])
        clear hc
        go_wp2_with fail
        go_ret
        exact ⟨ret_i HF.out.symm, rfl⟩
    · have HF := Lib.hid (show r = 0 from by rw [← HR.out, if_pos (K0.out (by omega)), K1.out (by omega)])
      go_wp2_with fail
      go_ret
      exact ⟨ret_i HF.out.symm, rfl⟩
/-- The world has grown: draws and new blocks. -/
def Gr (w w' : World) : Prop := ∃ q os, w' = grow (w.drewN q) os
theorem gr_of {w w' : World} (h : Ext w w') (hd : w.drawn ≤ w'.drawn) : Gr w w' := by
  obtain ⟨h1, h2, h3, h4, h5⟩ := h
  refine ⟨w'.drawn - w.drawn, w'.heap.extract w.heap.size w'.heap.size, ?_⟩
  obtain ⟨hp, tp, dr, o, out⟩ := w'
  have hh : hp = w.heap ++ hp.extract w.heap.size hp.size := by
    apply Array.ext
    · simp; simp at h4; omega
    · intro i hi1 hi2
      rw [Array.getElem_append]
      split
      · next hlt => have := h5 i hlt; rw [Array.getElem?_eq_getElem hi1, Array.getElem?_eq_getElem hlt] at this; exact Option.some.inj this
      · next hge =>
        rw [Array.getElem_extract]
        congr 1; omega
  unfold grow World.drewN
  simp only at h1 h2 h3 hd hh ⊢
  subst h1 h2 h3
  rw [← hh]
  congr 1
  omega
theorem Gr.ext {w w' : World} (h : Gr w w') : Ext w w' := by
  obtain ⟨q, os, rfl⟩ := h
  refine ⟨rfl, rfl, rfl, ?_, fun k hk => ?_⟩
  · simp [grow, World.drewN]
  · simp only [grow, World.drewN]
    rw [Array.getElem?_append_left hk]
theorem Gr.drawn {w w' : World} (h : Gr w w') : w.drawn ≤ w'.drawn := by
  obtain ⟨q, os, rfl⟩ := h
  exact Nat.le_add_right _ _
theorem Gr.refl (w : World) : Gr w w := gr_of (Ext.refl w) (Nat.le_refl _)
theorem Gr.trans {a b c : World} (h : Gr a b) (k : Gr b c) : Gr a c := gr_of (h.ext.trans k.ext) (Nat.le_trans h.drawn k.drawn)
theorem Gr.alloc {a w : World} (h : Gr a w) (o : Obj) : Gr a (w.alloc o) := gr_of (h.ext.alloc o) h.drawn
theorem Gr.drewN {a w : World} (h : Gr a w) (n : Nat) : Gr a (w.drewN n) := gr_of (h.ext.drewN n) (Nat.le_trans h.drawn (Nat.le_add_right _ _))
theorem Gr.drew {a w : World} (h : Gr a w) : Gr a w.drew := gr_of h.ext.drew (Nat.le_trans h.drawn (Nat.le_add_right _ 1))
theorem or_two_new (W : World) (c0 c1 : Int) : Calls Tryz.prog 169 #[.slice (some ⟨W.heap.size, 0, none⟩) 2 2] (W.alloc (.cells #[.int .i64 c0, .int .i64 c1] 3)).drew fun e w' => e = .returned (.int .i64 (if c0 = 0 then c1 else c0)) ∧ (W.alloc (.cells #[.int .i64 c0, .int .i64 c1] 3)).drew = w' :=
  have h := heap_alloc_at W #[.int .i64 c0, .int .i64 c1] 3 W.heap.size rfl
  or_two _ _ _ _ (cell_of h (i := 0) rfl) (cell_of h (i := 1) rfl)
theorem lb_or (n s n' s' : Int) : decide ((if Lib.compareInt n n' = 0 then Lib.compareInt s s' else Lib.compareInt n n') < 0) = decide (LbLt n s n' s') := by
  apply decide_eq_decide.2
  unfold Lib.compareInt LbLt
  by_cases h1 : n < n'
  · simp [h1]
  · by_cases h2 : n' < n
    · simp [h1, h2]; omega
    · have e : n = n' := by omega
      subst e
      by_cases h3 : s < s'
      · simp [h3]
      · by_cases h4 : s' < s <;> simp [h3, h4]
set_option maxHeartbeats 4000000 in
set_option maxRecDepth 100000 in
theorem less_any (n s n' s' : Int) (w : World) : Calls Tryz.prog 143 #[.agg #[.int .i64 n, .int .i64 s], .agg #[.int .i64 n', .int .i64 s']] w fun e w' => e = .returned (.bool (decide (LbLt n s n' s'))) ∧ Gr w w' := by
  obtain ⟨b1, hb1⟩ : ∃ b1, w.heap.size = b1 := ⟨_, rfl⟩
  obtain ⟨r, hr⟩ : ∃ r, decide (LbLt n s n' s') = r := ⟨_, rfl⟩
  rw [hr]
  have HR := Lib.hid hr
  clear hr
  go_enter Tryz.func143, Tryz.ntmps143
  go_upto_region 1 with (fail)
  obtain ⟨W1, hW1⟩ : ∃ W1, (w.alloc (.cells #[.int .i64 n, .int .i64 s] 64)).alloc (.cells #[.int .i64 n', .int .i64 s'] 64) = W1 := ⟨_, rfl⟩
  rw [hW1]
  have hX0 : Gr w W1 := by rw [← hW1]; exact ((Gr.refl w).alloc _).alloc _
  have hB1 : W1.heap[b1]? = some (.cells #[.int .i64 n, .int .i64 s] 64 (0, 0)) := by
    rw [← hW1, ← hb1, heap_alloc_old _ _ _ (by simp)]
    exact heap_alloc_at _ _ _ _ rfl
  have hB2 : W1.heap[b1 + 1]? = some (.cells #[.int .i64 n', .int .i64 s'] 64 (0, 0)) := by
    rw [← hW1, ← hb1]
    exact heap_alloc_at _ _ _ _ (by simp)
  have l1 := lt_of_block hB1
  have l2 := lt_of_block hB2
  have HX0 := Lib.hid hX0
  have HQ := Lib.hid (fun X (hX : Gr W1 X) => (show X.cell? ⟨b1, 0, none⟩ = some (.int .i64 n) ∧ X.cell? ⟨b1, 1, none⟩ = some (.int .i64 s) ∧ X.cell? ⟨b1 + 1, 0, none⟩ = some (.int .i64 n') ∧ X.cell? ⟨b1 + 1, 1, none⟩ = some (.int .i64 s') from
    have h9 := (hX.ext.block _ l1).trans hB1
    have h8 := (hX.ext.block _ l2).trans hB2
    ⟨cell_of h9 (i := 0) rfl, cell_of h9 (i := 1) rfl, cell_of h8 (i := 0) rfl, cell_of h8 (i := 1) rfl⟩))
  have hcur : Gr W1 W1.drew := (Gr.refl _).drew
  clear hX0 hB1 hB2 l1 l2 hb1 hW1
  by_cases hE : n = n' ∧ s = s'
  · obtain ⟨rfl, rfl⟩ := hE
    have HF := Lib.hid (show r = false by rw [← HR.out]; simp [LbLt])
    obtain ⟨q0, q1, q2, q3⟩ := HQ.out _ (Gr.refl W1)
    go_quiet (fail)
    go_wp2_with fail
    go_ret
    exact ⟨by rw [HF.out]; rfl, HX0.out.trans ((Gr.refl _).drewN _)⟩
  · obtain ⟨v, hv⟩ : ∃ v, (if Lib.compareInt n n' = 0 then Lib.compareInt s s' else Lib.compareInt n n') = v := ⟨_, rfl⟩
    have HF := Lib.hid (show decide (v < 0) = r by rw [← hv, lb_or]; exact HR.out)
    have HO := Lib.hid (fun W => or_two_new W (Lib.compareInt n n') (Lib.compareInt s s'))
    rw [hv] at HO
    have HC := Lib.hid Tryz.cmp_Compare_int
    clear hv
    by_cases d1 : n = n'
    · have d2 : (s == s') = false := by simpa using fun e => hE ⟨d1, e⟩
      subst d1
      clear hE
      go_region_held3 (fun W => W.cell? ⟨b1, 0, none⟩ = some (.int .i64 n) ∧ W.cell? ⟨b1, 1, none⟩ = some (.int .i64 s) ∧ W.cell? ⟨b1 + 1, 0, none⟩ = some (.int .i64 n) ∧ W.cell? ⟨b1 + 1, 1, none⟩ = some (.int .i64 s')) (first | exact HQ.out _ hcur | exact HQ.out _ ((Gr.refl _).alloc _).drew) (first
        | (go_at_call 142; refine (HC.out _ _ _).mono ?_; rintro e w9 ⟨rfl, rfl⟩)
        | (go_at_call 169; refine (HO.out _).mono ?_; rintro e w9 ⟨rfl, rfl⟩))
      all_goals
        go_wp2_with fail
        go_ret
        exact ⟨by rw [← HF.out]; rfl, HX0.out.trans ((Gr.refl _).alloc _).drew⟩
    · have d2 : (n == n') = false := by simpa using d1
      clear hE d1
      go_region_held3 (fun W => W.cell? ⟨b1, 0, none⟩ = some (.int .i64 n) ∧ W.cell? ⟨b1, 1, none⟩ = some (.int .i64 s) ∧ W.cell? ⟨b1 + 1, 0, none⟩ = some (.int .i64 n') ∧ W.cell? ⟨b1 + 1, 1, none⟩ = some (.int .i64 s')) (first | exact HQ.out _ hcur | exact HQ.out _ ((Gr.refl _).alloc _).drew) (first
        | (go_at_call 142; refine (HC.out _ _ _).mono ?_; rintro e w9 ⟨rfl, rfl⟩)
        | (go_at_call 169; refine (HO.out _).mono ?_; rintro e w9 ⟨rfl, rfl⟩))
      all_goals
        go_wp2_with fail
        go_ret
        exact ⟨by rw [← HF.out]; rfl, HX0.out.trans ((Gr.refl _).alloc _).drew⟩
end
end Go.Proofs.YtdbnddmncbjobaaGreatDoor