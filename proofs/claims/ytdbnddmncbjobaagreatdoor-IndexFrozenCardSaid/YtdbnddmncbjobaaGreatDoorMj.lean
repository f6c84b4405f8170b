/- made: the book and the seals of a case: walked. -/
import Derived.Test.YtdbnddmncbjobaaGreatDoorMi
import Derived.Test.YtdbnddmncbjobaaGreatDoorMg
import Derived.StillTailTactics
import Derived.Test.YtdbnddmncbjobaaGreatDoorMf
import Derived.Test.YtdbnddmncbjobaaGreatDoorMe
import Derived.Maps.RangeWalk
import Derived.Test.YtdbnddmncbjobaaGreatDoorMd
import Derived.Test.YtdbnddmncbjobaaGreatDoorMh
namespace Go.Proofs.YtdbnddmncbjobaaGreatDoor
open Go Go.RowKit
attribute [local go_sem] Oper.semAt_some

/-- What made gives. -/
def MadeGet (w : World) (e : Ending) (w' : World) : Prop := ∃ (b : Bk) (A : Option Addr) (n c : Nat) (A1 : Option Addr) (n1 c1 : Nat) (ls : List Sea), e = .returned (.tuple #[.agg #[.int .i64 b.ms, .int .i64 b.ht, .slice A n c], .slice A1 n1 c1]) ∧ OkG b ∧ n ≤ c ∧ kSe.row w' (fun _ => True) A n b.secs ∧ n1 ≤ c1 ∧ kSea.row w' (fun _ => True) A1 n1 ls ∧ ls.length ≤ 8 ∧ (∀ s ∈ ls, OkSea s) ∧ Ext w w'
set_option maxHeartbeats 8000000 in
set_option maxRecDepth 100000 in
theorem made_any (A A' : Option Addr) (c c' : Nat) (l l' : List Int) (br tb : Int) (w : World) (h : IL w A c l) (hl : l.length ≤ 9223372036854775807) (h' : IL w A' c' l') (hl' : l'.length ≤ 9223372036854775807) :
    Calls Tryz.prog 16 #[.agg #[.slice A l.length c, .slice A' l'.length c', .int .i64 br, .int .i64 tb]] w (MadeGet w) := by
  have HG := Lib.hid (fun X (hX : Ext w X) => gbook_any A c l X (h.ext hX) hl)
  have HS := Lib.hid (fun X (hX : Ext w X) P (b : Bk) B N cB hb hr => seals_any P X b A' B c' N cB l' (h'.ext hX) hl' hb hr)
  clear h h' hl hl'
  obtain ⟨n1, hn1⟩ : ∃ n1, l.length = n1 := ⟨_, rfl⟩
  obtain ⟨n2, hn2⟩ : ∃ n2, l'.length = n2 := ⟨_, rfl⟩
  rw [hn1] at HG ⊢
  rw [hn2] at HS ⊢
  clear hn1 hn2
  obtain ⟨z, hz⟩ : ∃ z, w.heap.size = z := ⟨_, rfl⟩
  obtain ⟨w1, hw1⟩ : ∃ w1, (w.alloc (.cells #[.slice A n1 c, .slice A' n2 c', .int .i64 br, .int .i64 tb] 24)).alloc (.cells #[.int .i64 0, .int .i64 0, .slice none 0 0] 27) = w1 := ⟨_, rfl⟩
  have hx1 : Ext w w1 := by rw [← hw1]; exact ((Ext.refl w).alloc _).alloc _
  have hB1 : w1.heap[z]? = some (.cells #[.slice A n1 c, .slice A' n2 c', .int .i64 br, .int .i64 tb] 24 (0, 0)) := by
    rw [← hw1, ← hz, heap_alloc_old _ _ _ (by simp)]; exact heap_alloc_new _ _
  have hB2 : w1.heap[z + 1]? = some (.cells #[.int .i64 0, .int .i64 0, .slice none 0 0] 27 (0, 0)) := by
    rw [← hw1, ← hz]; exact heap_alloc_at _ _ _ _ (by simp)
  have HX1 := Lib.hid hx1
  have HB1 := Lib.hid hB1
  have HB2 := Lib.hid hB2
  have HZ := Lib.hid hz
  have HZW := Lib.hid (show z + 1 < w1.heap.size from lt_of_block hB2)
  clear hx1 hB1 hB2
  go_enter Tryz.func16, Tryz.ntmps16
  go_upto_region 1 with (fail)
  clear hw1 hz
  have a0 := cell_of HB1.out (i := 0) (u := .slice A n1 c) rfl
  go_wp2_with (first | (go_at_call 39; refine (HG.out _ HX1.out).mono ?_; rintro e w2 ⟨b, B, N, cB, rfl, hok, hnc, hr, hx2⟩; have HOK := Lib.hid hok; have HNC := Lib.hid hnc; have HR := Lib.hid hr; have HX2 := Lib.hid hx2; clear hok hnc hr hx2))
  obtain ⟨g, hg⟩ : ∃ g, w2.heap.size = g := ⟨_, rfl⟩
  obtain ⟨w3, hw3⟩ : ∃ w3, w2.alloc (.cells #[.int .i64 b.ms, .int .i64 b.ht, .slice B N cB] 27) = w3 := ⟨_, rfl⟩
  have hx23 : Ext w2 w3 := by rw [← hw3]; exact (Ext.refl w2).alloc _
  have hB3 : w3.heap[g]? = some (.cells #[.int .i64 b.ms, .int .i64 b.ht, .slice B N cB] 27 (0, 0)) := by rw [← hw3, ← hg]; exact heap_alloc_new _ _
  rw [hg, hw3]
  have hx13 : Ext w1 w3 := HX2.out.trans hx23
  have hl1 := lt_of_block HB1.out
  have HQ := Lib.hid (fun X (hX : Ext w3 X) => (show X.cell? ⟨z, 1, none⟩ = some (.slice A' n2 c') ∧ X.cell? ⟨g, 0, none⟩ = some (.int .i64 b.ms) ∧ X.cell? ⟨g, 1, none⟩ = some (.int .i64 b.ht) ∧ X.cell? ⟨g, 2, none⟩ = some (.slice B N cB) from
    have h9 := (hX.block _ (lt_of_block hB3)).trans hB3
    have h8 := ((hx13.trans hX).block _ hl1).trans HB1.out
    ⟨cell_of h8 (i := 1) rfl, cell_of h9 (i := 0) rfl, cell_of h9 (i := 1) rfl, cell_of h9 (i := 2) rfl⟩))
  have HBX := Lib.hid (fun X (hX : Ext w3 X) => (show X.heap[z + 1]? = some (.cells #[.int .i64 0, .int .i64 0, .slice none 0 0] 27 (0, 0)) from ((hx13.trans hX).block _ (lt_of_block HB2.out)).trans HB2.out))
  have HSE := Lib.hid (HS.out _ ((HX1.out.trans hx13).trans (Ext.refl w3).drew) _ b B N cB HOK.out.okB (Lay.row_ext HR.out (hx23.trans (Ext.refl w3).drew)))
  have HX23 := Lib.hid hx23
  have HX13 := Lib.hid hx13
  have HG2 := Lib.hid (show w1.heap.size ≤ g by rw [← hg]; exact HX2.out.lt)
  clear hx23 hB3 hw3 hg hx13 hl1 a0
  go_upto_region 2 with (fail)
  have hS0 : (fun X : World => X.cell? ⟨z, 1, none⟩ = some (.slice A' n2 c') ∧ X.cell? ⟨g, 0, none⟩ = some (.int .i64 b.ms) ∧ X.cell? ⟨g, 1, none⟩ = some (.int .i64 b.ht) ∧ X.cell? ⟨g, 2, none⟩ = some (.slice B N cB)) w3.drew := HQ.out _ (Ext.refl _).drew
  refine wp_region_E (fun X : World => X.cell? ⟨z, 1, none⟩ = some (.slice A' n2 c') ∧ X.cell? ⟨g, 0, none⟩ = some (.int .i64 b.ms) ∧ X.cell? ⟨g, 1, none⟩ = some (.int .i64 b.ht) ∧ X.cell? ⟨g, 2, none⟩ = some (.slice B N cB)) (fun _ => True) (fun i => i == 99) (by kernel_rfl) ?_
  refine wpE_takeS (i := 0) (d := some 8) (v := .agg #[.int .i64 b.ms, .int .i64 b.ht, .slice B N cB]) rfl rfl (by kernel_rfl) (by kernel_rfl) (by kernel_rfl) (by kernel_rfl) (fun _ _ _ h => h) (by rfl) ?hya1 hS0 trivial ?goa1
  case hya1 =>
    intro w9 hT9
    obtain ⟨y0, y1, y2, y3⟩ := hT9; go_simp
  (try simp only [Act.put, List.setIfInBounds_toArray, List.set_cons_zero, List.set_cons_succ])
  refine wpE_takeS (i := 1) (d := some 9) (v := .pointer (some ⟨z, 1, none⟩)) rfl rfl (by kernel_rfl) (by kernel_rfl) (by kernel_rfl) (by kernel_rfl) (fun _ _ _ h => h) (by rfl) ?hya2 hS0 trivial ?goa2
  case hya2 =>
    intro w9 hT9
    clear hT9; go_simp
  (try simp only [Act.put, List.setIfInBounds_toArray, List.set_cons_zero, List.set_cons_succ])
  refine wpE_takeS (i := 2) (d := some 10) (v := .slice A' n2 c') rfl rfl (by kernel_rfl) (by kernel_rfl) (by kernel_rfl) (by kernel_rfl) (fun _ _ _ h => h) (by rfl) ?hya3 hS0 trivial ?goa3
  case hya3 =>
    intro w9 hT9
    obtain ⟨y0, y1, y2, y3⟩ := hT9; go_simp
  (try simp only [Act.put, List.setIfInBounds_toArray, List.set_cons_zero, List.set_cons_succ])
  refine wpE_takeS (i := 3) (d := some 11) (v := .agg #[.int .i64 b.ms, .int .i64 b.ht, .slice B N cB]) rfl rfl (by kernel_rfl) (by kernel_rfl) (by kernel_rfl) (by kernel_rfl) (fun _ _ _ h => h) (by rfl) ?hya4 hS0 trivial ?goa4
  case hya4 =>
    intro w9 hT9
    obtain ⟨y0, y1, y2, y3⟩ := hT9; go_simp
  (try simp only [Act.put, List.setIfInBounds_toArray, List.set_cons_zero, List.set_cons_succ])
  refine wpE_all (rs := [4]) (by kernel_rfl) (by simp) ?_
  refine AllE.cons rfl (fun K hK => ?_) AllE.nil
  simp only [List.getElem_toArray, List.getElem_cons_succ, List.getElem_cons_zero]
  go_simp
  go_at_call 54
  refine (HSE.out).mono ?_
  rintro z9 w4 ⟨A1, m1, c1, ls, rfl, hc1, hrs, hls, hgs, hx4⟩
  have hx34 : Ext w3 w4 := (Ext.refl w3).drew.trans hx4
  simp only []
  refine hK.out _ _ ⟨fun _ => (HQ.out _ hx34), trivial⟩ (fun _ => ?_)
  clear hK K
  have hS0 := (HQ.out _ hx34)
  (try simp only [Act.put, List.setIfInBounds_toArray, List.set_cons_zero, List.set_cons_succ])
  have HBB := Lib.hid (HBX.out _ hx34)
  have hsw : (fun X : World => X.cell? ⟨z, 1, none⟩ = some (.slice A' n2 c') ∧ X.cell? ⟨g, 0, none⟩ = some (.int .i64 b.ms) ∧ X.cell? ⟨g, 1, none⟩ = some (.int .i64 b.ht) ∧ X.cell? ⟨g, 2, none⟩ = some (.slice B N cB)) (((w4.setCell ⟨z + 1, 0, none⟩ (.int .i64 b.ms)).setCell ⟨z + 1, 1, none⟩ (.int .i64 b.ht)).setCell ⟨z + 1, 2, none⟩ (.slice B N cB)) := by
    have hgz : g ≠ z + 1 := by have := HG2.out; have := HZW.out; omega
    have o := fun (bb oo : Nat) (u : Value) (hne : bb ≠ z + 1) (h : w4.cell? ⟨bb, oo, none⟩ = some u) => (show (((w4.setCell ⟨z + 1, 0, none⟩ (.int .i64 b.ms)).setCell ⟨z + 1, 1, none⟩ (.int .i64 b.ht)).setCell ⟨z + 1, 2, none⟩ (.slice B N cB)).cell? ⟨bb, oo, none⟩ = some u from
      (World.cell?_setCell_other _ _ _ _ (by intro e; injection e with e; omega)).trans ((World.cell?_setCell_other _ _ _ _ (by intro e; injection e with e; omega)).trans ((World.cell?_setCell_other _ _ _ _ (by intro e; injection e with e; omega)).trans h)))
    obtain ⟨y0, y1, y2, y3⟩ := HQ.out _ hx34
    exact ⟨o _ _ _ (by omega) y0, o _ _ _ hgz y1, o _ _ _ hgz y2, o _ _ _ hgz y3⟩
  have f0 := frozen_of HBB.out 0
  have f1 := frozen_of HBB.out 1
  have f2 := frozen_of HBB.out 2
  have v0 := cell_of HBB.out (i := 0) (u := .int .i64 0) rfl
  have v1 := cell_of HBB.out (i := 1) (u := .int .i64 0) rfl
  have v2 := cell_of HBB.out (i := 2) (u := .slice none 0 0) rfl
  refine wpE_all (rs := [5]) (by kernel_rfl) (by simp) ?_
  refine AllE.cons rfl (fun K hK => ?_) AllE.nil
  simp only [List.getElem_toArray, List.getElem_cons_succ, List.getElem_cons_zero]
  go_simp
  refine hK.out _ _ ⟨fun _ => hsw, trivial⟩ (fun _ => ?_)
  clear hK K
  (try simp only [Act.put, List.setIfInBounds_toArray, List.set_cons_zero, List.set_cons_succ])
  clear f0 f1 f2 v0 v1 v2
  refine wpE_all (rs := [6]) (by kernel_rfl) (by simp) ?_
  refine AllE.cons rfl (fun K hK => ?_) AllE.nil
  simp only [List.getElem_toArray, List.getElem_cons_succ, List.getElem_cons_zero]
  go_simp
  refine hK.out _ _ ⟨fun _ => hsw, trivial⟩ (fun _ => ?_)
  clear hK K
  (try simp only [Act.put, List.setIfInBounds_toArray, List.set_cons_zero, List.set_cons_succ])
  refine wpE_done (by kernel_rfl) ?_ _
  go_wp2_with fail
  have hs := st3 HBB.out (.int .i64 b.ms) (.int .i64 b.ht) (.slice B N cB)
  have q0 := cell_of hs (i := 0) rfl
  have q1 := cell_of hs (i := 1) rfl
  have q2 := cell_of hs (i := 2) rfl
  refine bodyPost_ret (v := .tuple #[.agg #[.int .i64 b.ms, .int .i64 b.ht, .slice B N cB], .slice A1 m1 c1]) (by simp [results, Tryz.results16, go_sem, q0, q1, q2]) rfl ?_
  have hk9 : ∀ j, w1.heap.size ≤ j → ((((w4.setCell ⟨z + 1, 0, none⟩ (.int .i64 b.ms)).setCell ⟨z + 1, 1, none⟩ (.int .i64 b.ht)).setCell ⟨z + 1, 2, none⟩ (.slice B N cB)).heap[j]? = w4.heap[j]?) := fun j hj => by
    have hz9 : j ≠ z + 1 := by have := HZW.out; omega
    exact (heap_setCell_other _ ⟨z + 1, 2, none⟩ j _ hz9).trans ((heap_setCell_other _ ⟨z + 1, 1, none⟩ j _ hz9).trans (heap_setCell_other _ ⟨z + 1, 0, none⟩ j _ hz9))
  refine ⟨b, B, N, cB, A1, m1, c1, ls, rfl, HOK.out, HNC.out, ?_, hc1, ?_, hls, hgs, ext3 (HX1.out.trans (HX13.out.trans hx34)) (by have := HZ.out; omega) _ _ _⟩
  · exact Lay.row_mono (Lay.row_keep (Lay.row_ext HR.out (HX23.out.trans hx34)) (by simp) fun j hj _ => hk9 j hj) fun _ _ _ => trivial
  · refine Lay.row_mono (Lay.row_keep hrs (by simp) fun j hj _ => hk9 j ?_) fun _ _ _ => trivial
    have h8 : w3.heap.size ≤ j := hj
    have := HX13.out.lt
    omega
end Go.Proofs.YtdbnddmncbjobaaGreatDoor

/- The reference's Same: walked. -/
namespace Go.Proofs.YtdbnddmncbjobaaGreatDoor
open Go Go.RowKit
attribute [local go_sem] Oper.semAt_some

theorem dnCat (w : World) (m x k : Nat) : (w.drewN (m + x)).drewN k = w.drewN (m + (x + k)) := by simp [World.drewN, Nat.add_assoc]
def kIt : Lay (List UInt8 × List Ct) := kStr.pair kCt.list
theorem it_at {W : World} {P : Nat → Prop} {A : Option Addr} {n : Nat} {xs : Tb} (h : kIt.row W P A n xs) {i : Nat} {x : List UInt8 × List Ct} (hi : xs[i]? = some x) :
    ∃ b off A2 n2 c2, A = some ⟨b, off, none⟩ ∧ b < W.heap.size ∧ W.cell? ⟨b, off + i * 2, none⟩ = some (.string ⟨x.1.toArray⟩) ∧ W.cell? ⟨b, off + i * 2 + 1, none⟩ = some (.slice A2 n2 c2) ∧ n2 ≤ c2 ∧ kCt.row W P A2 n2 x.2 := by
  obtain ⟨b, off, cs, rfl, hb, _, ⟨ca, cb, rfl, h1, A2, n2, c2, rfl, h2, h3⟩, hc⟩ := Lay.row_at h hi
  have h1' : ca = [.string ⟨x.1.toArray⟩] := h1
  subst h1'
  exact ⟨b, off, A2, n2, c2, rfl, hb, hc 0 _ rfl, hc 1 _ rfl, h2, h3⟩
def SbR (w : World) (n : Nat) (xs ys : Tb) (s5 : Value) (W : World) : Prop := ∃ i : Nat, i ≤ n ∧ s5 = .int .i64 i ∧ xs.take i = ys.take i ∧ ∃ q, W = w.drewN q
set_option maxHeartbeats 4000000 in
set_option maxRecDepth 100000 in
theorem same_any (P Q : Nat → Prop) (w : World) (xs ys : Tb) (hx9 : ∀ x ∈ xs ++ ys, x.2.length ≤ 100000000) (A A' : Option Addr) (n n' c c' : Nat) (h : kIt.row w P A n xs) (h' : kIt.row w Q A' n' ys) (hn : n ≤ 100000000) (hn' : n' ≤ 100000000) :
    Calls Tryz.prog 18 #[.slice A n c, .slice A' n' c'] w fun e w' => e = .returned (.bool (decide (xs = ys))) ∧ ∃ q, w' = w.drewN q := by
  have HL := Lib.hid (Lay.row_len h)
  have HL' := Lib.hid (Lay.row_len h')
  have HR := Lib.hid h
  have HR' := Lib.hid h'
  obtain ⟨r, hr⟩ : ∃ r, decide (xs = ys) = r := ⟨_, rfl⟩
  rw [hr]
  have HV := Lib.hid hr
  clear h h' hr
  by_cases hne : n = n'
  case neg =>
    have d : ((n : Int) != (n' : Int)) = true := by simp; omega
    have hF : r = false := by rw [← HV.out]; exact decide_eq_false fun e => hne (by rw [HL.out, HL'.out, e])
    subst hF
    go_enter Tryz.func18, Tryz.ntmps18
    go_wp2_with fail
    go_ret
    exact ⟨rfl, 0, rfl⟩
  subst hne
  go_enter Tryz.func18, Tryz.ntmps18
  go_wp2_with fail
  go_loopw [5] (fun s5 W => SbR w n xs ys s5 W) (fun s5 _ => toM n s5)
  case atStart => exact ⟨0, by omega, rfl, rfl, 0, rfl⟩
  case round =>
    obtain ⟨i, hi, rfl, hp, q, rfl⟩ := hrel
    have HP := Lib.hid hp
    clear hp
    by_cases hlt : i < n
    case neg =>
      obtain rfl : i = n := by omega
      have hni : ¬ ((i : Int) < (i : Int)) := by omega
      have hF : r = true := by
        rw [← HV.out]
        have := HP.out
        rw [HL.out, List.take_length] at this
        rw [← HL.out, HL'.out, List.take_length] at this
        exact decide_eq_true this
      subst hF
      go_wp2_with fail
      go_ret
      exact ⟨rfl, q, rfl⟩
    have hI : (i : Int) < (n : Int) := by omega
    obtain ⟨x, hx⟩ : ∃ x, xs[i]? = some x := ⟨_, List.getElem?_eq_getElem (by have := HL.out; omega)⟩
    obtain ⟨y, hy⟩ : ∃ y, ys[i]? = some y := ⟨_, List.getElem?_eq_getElem (by have := HL'.out; omega)⟩
    obtain ⟨b, off, A2, n2, c2, rfl, _, a0, a1, _, ra⟩ := it_at HR.out hx
    obtain ⟨b', off', A3, n3, c3, rfl, _, b0, b1, _, rb⟩ := it_at HR'.out hy
    have hx1 := hx9 x (List.mem_append_left _ (List.mem_of_getElem? hx))
    have hy1 := hx9 y (List.mem_append_right _ (List.mem_of_getElem? hy))
    have l2 := Lay.row_len ra
    have l3 := Lay.row_len rb
    have HX := Lib.hid hx
    have HY := Lib.hid hy
    clear hx hy
    have HS := Lib.hid (fun q => samec_any P Q (w.drewN q) x.2 y.2 A2 A3 n2 n3 c2 c3 ra rb (by omega) (by omega))
    clear ra rb l2 l3 hx1 hy1
    obtain ⟨xk, xl⟩ := x
    obtain ⟨yk, yl⟩ := y
    simp only at a0 a1 b0 b1 HS
    by_cases hk : xk = yk
    · subst hk
      by_cases hl : xl = yl
      · subst hl
        rw [show decide (xl = xl) = true from decide_eq_true rfl] at HS
        go_upto_region 6 with (fail)
        go_quiet (first | (go_at_call 27; refine (HS.out _).mono ?_; rintro e w1 ⟨rfl, k, rfl⟩; exact ⟨rfl, _, dnCat _ _ _ _⟩))
        go_wp2_with fail
        go_roundw
        case rel => exact ⟨i + 1, by omega, by go_num, take_eq HP.out HX.out HY.out rfl, _, rfl⟩
        case measure => simp only [toM]; omega
      · rw [decide_eq_false hl] at HS
        have hF : r = false := by
          rw [← HV.out]
          exact decide_eq_false fun e => hl (by have h9 := HX.out; rw [e, HY.out] at h9; injection h9 with h9; injection h9 with _ h9; exact h9.symm)
        subst hF
        clear hl
        go_upto_region 6 with (fail)
        go_quiet (first | (go_at_call 27; refine (HS.out _).mono ?_; rintro e w1 ⟨rfl, k, rfl⟩; exact ⟨rfl, _, dnCat _ _ _ _⟩))
        go_wp2_with fail
        go_ret
        exact ⟨rfl, q + nq, by simp [World.drewN, Nat.add_assoc]⟩
    · have d1 : (xk == yk) = false := by simpa using hk
      have hF : r = false := by
        rw [← HV.out]
        exact decide_eq_false fun e => hk (by have h9 := HX.out; rw [e, HY.out] at h9; injection h9 with h9; injection h9 with h9 _; exact h9.symm)
      subst hF
      clear hk
      go_upto_region 6 with (fail)
      go_quiet (fail)
      go_wp2_with fail
      go_ret
      exact ⟨rfl, q + nq, by simp [World.drewN, Nat.add_assoc]⟩
end Go.Proofs.YtdbnddmncbjobaaGreatDoor

/- The reference's Put: walked. -/
namespace Go.Proofs.YtdbnddmncbjobaaGreatDoor
open Go Go.RowKit
attribute [local go_sem] Oper.semAt_some

theorem put_skip : ∀ {T : Tb} {k : List UInt8} {x : Ct} (i : Nat), (∀ y ∈ T.take i, sLt y.1 k = true) → putP T k x = T.take i ++ putP (T.drop i) k x
  | _, _, _, 0, _ => rfl
  | [], _, _, _ + 1, _ => rfl
  | y :: r, k, x, i + 1, h => by
    have h1 : sLt y.1 k = true := h y (by simp)
    have ih := put_skip (T := r) (k := k) (x := x) i fun z hz => h z (by simp [hz])
    simp only [putP, if_pos h1, List.take_succ_cons, List.drop_succ_cons, List.cons_append, ih]
theorem put_here {T : Tb} {k : List UInt8} {x : Ct} {y : List UInt8 × List Ct} {i : Nat} (h : ∀ y ∈ T.take i, sLt y.1 k = true) (hy : T[i]? = some y) (hn : sLt y.1 k = false) :
    putP T k x = if y.1 = k then T.take i ++ [(k, placeP y.2 x)] ++ T.drop (i + 1) else T.take i ++ [(k, [x])] ++ T.drop i := by
  rw [put_skip i h]
  obtain ⟨hk, rfl⟩ := List.getElem?_eq_some_iff.1 hy
  have e : T.drop i = T[i] :: T.drop (i + 1) := List.drop_eq_getElem_cons hk
  rw [e]
  simp only [putP, hn, Bool.false_eq_true, if_false]
  split <;> simp
theorem put_end {T : Tb} {k : List UInt8} {x : Ct} (h : ∀ y ∈ T, sLt y.1 k = true) : putP T k x = T ++ [(k, [x])] := by
  have := put_skip (T := T) (k := k) (x := x) T.length (by rw [List.take_length]; exact h)
  rw [List.take_length, List.drop_length] at this
  exact this
theorem kIt_rep {W : World} {P : Nat → Prop} {x : List UInt8 × List Ct} {cs : List Value} : kIt.rep W P x cs ↔ ∃ A n c, cs = [.string ⟨x.1.toArray⟩, .slice A n c] ∧ n ≤ c ∧ kCt.row W P A n x.2 := by
  constructor
  · rintro ⟨_, _, rfl, rfl, A, n, c, rfl, h1, h2⟩; exact ⟨A, n, c, rfl, h1, h2⟩
  · rintro ⟨A, n, c, rfl, h1, h2⟩; exact ⟨_, _, rfl, rfl, A, n, c, rfl, h1, h2⟩
theorem kIt_sz : kIt.sz = 2 := rfl
def PuR (w1 : World) (T : Tb) (k : List UInt8) (s7 : Value) (W : World) : Prop := ∃ i : Nat, i ≤ T.length ∧ s7 = .int .i64 i ∧ (∀ y ∈ T.take i, sLt y.1 k = true) ∧ Ext w1 W
/-- The first items, in a new row. -/
theorem pu_one {P : Nat → Prop} {w1 X : World} {T : Tb} {A : Option Addr} {n c i : Nat} (hr : kIt.row w1 P A n T) (hX : Ext w1 X) (hi : i ≤ n) (hn : n ≤ 40000000) :
    ∃ A1 c1 w2, (Builtin.append_ #[33, 33] 33 #[.slice none 0 0, .slice A i c]).run Tryz.prog X = .ok (.slice A1 i c1) w2 ∧ Ext w1 w2 ∧ kIt.own 99 w2 w1.heap.size (fun j => P j ∨ w1.heap.size ≤ j) (.slice A1 i c1) (T.take i) := by
  have hlen := Lay.row_len hr
  obtain ⟨A1, c1, w2, r1, o1, x1⟩ := own_app (k := kIt) (Pr := Tryz.prog) (t := 33) (e := 99) Tryz.underlying33 info99 rfl (by decide) (by omega) (Lay.own_nil kIt 99 X w1.heap.size (fun j => P j ∨ w1.heap.size ≤ j)) hX (Lay.row_mono (Lay.row_take hr i hi) fun j hj _ => .inl hj) c (by simp; omega)
  simp only [List.length_nil, Nat.zero_add, List.nil_append] at r1 o1
  exact ⟨A1, c1, w2, r1, x1, o1⟩
/-- A further item, behind which its places have been laid. -/
theorem pu_two {P : Nat → Prop} {w1 X : World} {T1 : Tb} {A1 : Option Addr} {i c1 : Nat} (ho : kIt.own 99 X w1.heap.size (fun j => P j ∨ w1.heap.size ≤ j) (.slice A1 i c1) T1) (hX : Ext w1 X) (hi : i = T1.length) (hi2 : i ≤ 40000000) {k : List UInt8} {l : List Ct} {B : Option Addr} {m d : Nat} (hm : m ≤ d)
    (hr : kCt.row X (fun j => (P j ∨ w1.heap.size ≤ j) ∧ (Value.slice A1 i c1).ownBlock ≠ some j) B m l) :
    ∃ A2 c2 w3, (Builtin.append_ #[33, 33] 33 #[.slice A1 i c1, .slice (some ⟨X.heap.size, 0, none⟩) 1 1]).run Tryz.prog (X.alloc (.cells #[.string ⟨k.toArray⟩, .slice B m d] 99)) = .ok (.slice A2 (i + 1) c2) w3 ∧ Ext w1 w3 ∧ kIt.own 99 w3 w1.heap.size (fun j => P j ∨ w1.heap.size ≤ j) (.slice A2 (i + 1) c2) (T1 ++ [(k, l)]) := by
  subst hi
  obtain ⟨A2, c2, w3, r2, o2, b2, _⟩ := own_app1 (k := kIt) (Pr := Tryz.prog) (t := 33) (e := 99) Tryz.underlying33 info99 rfl (by decide) (by omega) ho hX.lt (cs := #[.string ⟨k.toArray⟩, .slice B m d]) (T := 99) (x := (k, l)) (kIt_rep.2 ⟨B, m, d, rfl, hm, hr⟩) 1 (by omega)
  exact ⟨A2, c2, w3, r2, Below.trans hX (b2 _ (Nat.le_refl _)), o2⟩
/-- The last items. -/
theorem pu_three {P : Nat → Prop} {w1 X : World} {T T1 : Tb} {A A1 : Option Addr} {n c i c1 l : Nat} (hr : kIt.row w1 P A n T) (ho : kIt.own 99 X w1.heap.size (fun j => P j ∨ w1.heap.size ≤ j) (.slice A1 i c1) T1) (hX : Ext w1 X) (hi : i = T1.length) (hi2 : i ≤ 50000000) (hl : l ≤ n) (hc : n ≤ c) (hn : n ≤ 40000000) :
    ∃ A3 c3 w4, (Builtin.append_ #[33, 33] 33 #[.slice A1 i c1, .slice (A.map fun a => if c = l then a else a.add (l * 2)) (n - l) (c - l)]).run Tryz.prog X = .ok (.slice A3 (i + (n - l)) c3) w4 ∧ i + (n - l) ≤ c3 ∧ kIt.row w4 (fun j => P j ∨ w1.heap.size ≤ j) A3 (i + (n - l)) (T1 ++ T.drop l) ∧ Ext w1 w4 := by
  subst hi
  obtain ⟨A3, c3, w4, r3, o3, x3⟩ := own_app (k := kIt) (Pr := Tryz.prog) (t := 33) (e := 99) Tryz.underlying33 info99 rfl (by decide) (by omega) ho hX (Lay.row_mono (row_lo hr l hl hc) fun j hj _ => .inl hj) (c - l) (by omega)
  obtain ⟨h9, h8⟩ := own_rowQ o3
  exact ⟨A3, c3, w4, r3, h9, Lay.row_mono h8 fun j hj _ => hj.elim id .inr, x3⟩
/-- The places of a key that is there, with a further one; the item behind the first ones. -/
theorem pu_place {P : Nat → Prop} {w1 w2 X : World} {T1 : Tb} {A1 : Option Addr} {i c1 : Nat} (ho : kIt.own 99 w2 w1.heap.size (fun j => P j ∨ w1.heap.size ≤ j) (.slice A1 i c1) T1) (hx2 : Ext w1 w2) (hX : Ext w2 X) (hi : i = T1.length) (hi2 : i ≤ 40000000) (k : List UInt8) {l : List Ct} (x : Ct) {B : Option Addr} {m d : Nat} (hm : m ≤ d) (hm2 : m ≤ 40000000)
    (hr : kCt.row w1 (fun j => P j ∧ j < w1.heap.size) B m l) :
    Calls Tryz.prog 120 #[.slice B m d, .agg #[.int .i64 x.br, .int .i64 x.nu, .int .i64 x.su, .int .i64 x.li]] X fun e w3 => ∃ B' m' d', e = .returned (.slice B' m' d') ∧ Ext w1 w3 ∧ ∃ A2 c2 w4,
      (Builtin.append_ #[33, 33] 33 #[.slice A1 i c1, .slice (some ⟨w3.heap.size, 0, none⟩) 1 1]).run Tryz.prog (w3.alloc (.cells #[.string ⟨k.toArray⟩, .slice B' m' d'] 99)) = .ok (.slice A2 (i + 1) c2) w4 ∧ Ext w1 w4 ∧ kIt.own 99 w4 w1.heap.size (fun j => P j ∨ w1.heap.size ≤ j) (.slice A2 (i + 1) c2) (T1 ++ [(k, placeP l x)]) := by
  have hlt := Lay.own_lt ho
  refine (placec_any (fun j => (P j ∨ w1.heap.size ≤ j) ∧ (Value.slice A1 i c1).ownBlock ≠ some j) X l x B m d (Lay.row_mono (Lay.row_ext hr (hx2.trans hX)) fun j hj _ => ⟨.inl hj.1, fun e => by have := (hlt j e).1; have := hj.2; omega⟩) hm hm2).mono ?_
  rintro e w3 ⟨B', m', d', rfl, hm', hr', hx3⟩
  obtain ⟨A2, c2, w4, r2, x4, o2⟩ := pu_two (k := k) (Lay.own_ext ho (hX.trans hx3)) ((hx2.trans hX).trans hx3) hi hi2 hm' (Lay.row_mono hr' fun j hj _ => hj.elim id fun hj => ⟨.inr (Nat.le_trans (hx2.trans hX).lt hj), fun e => by have := (hlt j e).2; have := hX.lt; omega⟩)
  exact ⟨B', m', d', rfl, (hx2.trans hX).trans hx3, A2, c2, w4, r2, x4, o2⟩
/-- A new key with one place behind the first items. -/
theorem pu_new {P : Nat → Prop} {w1 w2 : World} {T1 : Tb} {A1 : Option Addr} {i c1 : Nat} (ho : kIt.own 99 w2 w1.heap.size (fun j => P j ∨ w1.heap.size ≤ j) (.slice A1 i c1) T1) (hx2 : Ext w1 w2) (hi : i = T1.length) (hi2 : i ≤ 40000000) (k : List UInt8) (x : Ct) :
    ∃ A2 c2 w4, (Builtin.append_ #[33, 33] 33 #[.slice A1 i c1, .slice (some ⟨w2.heap.size + 1, 0, none⟩) 1 1]).run Tryz.prog ((w2.alloc (.cells #[.int .i64 x.br, .int .i64 x.nu, .int .i64 x.su, .int .i64 x.li] 69)).alloc (.cells #[.string ⟨k.toArray⟩, .slice (some ⟨w2.heap.size, 0, none⟩) 1 1] 99)) = .ok (.slice A2 (i + 1) c2) w4 ∧ Ext w1 w4 ∧
      kIt.own 99 w4 w1.heap.size (fun j => P j ∨ w1.heap.size ≤ j) (.slice A2 (i + 1) c2) (T1 ++ [(k, [x])]) := by
  have hlt := Lay.own_lt ho
  have hr : kCt.row (w2.alloc (.cells #[.int .i64 x.br, .int .i64 x.nu, .int .i64 x.su, .int .i64 x.li] 69)) (fun j => False ∨ w2.heap.size ≤ j) (some ⟨w2.heap.size, 0, none⟩) 1 [x] := (own_rowQ (own_new (k := kCt) (X := w2) (base := w2.heap.size) (P := fun _ => False) (x := x) (cs := #[.int .i64 x.br, .int .i64 x.nu, .int .i64 x.su, .int .i64 x.li]) (e := 69) (Nat.le_refl _) (kCt_rep.2 rfl))).2
  have hx3 : Ext w2 (w2.alloc (.cells #[.int .i64 x.br, .int .i64 x.nu, .int .i64 x.su, .int .i64 x.li] 69)) := (Ext.refl w2).alloc _
  obtain ⟨A2, c2, w4, r2, x4, o2⟩ := pu_two (k := k) (Lay.own_ext ho hx3) (hx2.trans hx3) hi hi2 (Nat.le_refl 1) (Lay.row_mono hr fun j hj _ => hj.elim False.elim fun hj => ⟨.inr (Nat.le_trans hx2.lt hj), fun e => by have := (hlt j e).2; omega⟩)
  have e : (w2.alloc (.cells #[.int .i64 x.br, .int .i64 x.nu, .int .i64 x.su, .int .i64 x.li] 69)).heap.size = w2.heap.size + 1 := by simp
  rw [e] at r2
  exact ⟨A2, c2, w4, r2, x4, o2⟩
set_option maxHeartbeats 4000000 in
set_option maxRecDepth 100000 in
theorem put_any (P : Nat → Prop) (w : World) (T : Tb) (k : List UInt8) (x : Ct) (A : Option Addr) (n c : Nat) (h : kIt.row w P A n T) (hc : n ≤ c) (hn : n ≤ 40000000) (hT : ∀ y ∈ T, y.2.length ≤ 40000000) :
    Calls Tryz.prog 62 #[.slice A n c, .string ⟨k.toArray⟩, ctV x] w fun e w' => ∃ A' n' c', e = .returned (.slice A' n' c') ∧ n' ≤ c' ∧ kIt.row w' (fun j => P j ∨ w.heap.size ≤ j) A' n' (putP T k x) ∧ Ext w w' := by
  have HL := Lib.hid (Lay.row_len h)
  have HA := Lib.hid (fun e => row_A h e)
  have HTB := Lib.hid hT
  clear hT
  unfold ctV
  obtain ⟨z, hz⟩ : ∃ z, w.heap.size = z := ⟨_, rfl⟩
  obtain ⟨w1, hw1⟩ : ∃ w1, w.alloc (.cells #[.int .i64 x.br, .int .i64 x.nu, .int .i64 x.su, .int .i64 x.li] 69) = w1 := ⟨_, rfl⟩
  have hx1 : Ext w w1 := by rw [← hw1]; exact (Ext.refl w).alloc _
  have hB : w1.heap[z]? = some (.cells #[.int .i64 x.br, .int .i64 x.nu, .int .i64 x.su, .int .i64 x.li] 69 (0, 0)) := by rw [← hw1, ← hz]; exact heap_alloc_new _ _
  have hzl := lt_of_block hB
  have HQ := Lib.hid (fun X (hX : Ext w1 X) => (show X.cell? ⟨z, 0, none⟩ = some (.int .i64 x.br) ∧ X.cell? ⟨z, 1, none⟩ = some (.int .i64 x.nu) ∧ X.cell? ⟨z, 2, none⟩ = some (.int .i64 x.su) ∧ X.cell? ⟨z, 3, none⟩ = some (.int .i64 x.li) from
    have h9 := (hX.block _ hzl).trans hB
    ⟨cell_of h9 (i := 0) rfl, cell_of h9 (i := 1) rfl, cell_of h9 (i := 2) rfl, cell_of h9 (i := 3) rfl⟩))
  have HR1 := Lib.hid (show kIt.row w1 (fun j => P j ∧ j < w1.heap.size) A n T from Lay.row_mono (Lay.row_ext h hx1) fun j hj hjl => ⟨hj, hjl⟩)
  have HX1 := Lib.hid hx1
  have HZ := Lib.hid (show w.heap.size ≤ w1.heap.size from hx1.lt)
  have HRF := Lib.hid (fun (X : World) (B : Option Addr) (m : Nat) (S : Tb) (hr : kIt.row X (fun j => (P j ∧ j < w1.heap.size) ∨ w1.heap.size ≤ j) B m S) => (show kIt.row X (fun j => P j ∨ w.heap.size ≤ j) B m S from Lay.row_mono hr fun j hj _ => hj.imp (·.1) (Nat.le_trans hx1.lt)))
  have HTK := Lib.hid (fun i (hi : i ≤ n) => (show i = (T.take i).length by rw [List.length_take]; have := HL.out; omega))
  clear h hx1 hB hzl
  go_enter Tryz.func62, Tryz.ntmps62
  go_upto_region 1 with (fail)
  clear hw1 hz
  go_wp2_with fail
  go_loopw [7] (fun s7 W => PuR w1 T k s7 W) (fun s7 _ => toM n s7)
  case atStart => exact ⟨0, by omega, rfl, by simp, Ext.refl _⟩
  case round =>
    obtain ⟨i, hi, rfl, hp, hxr⟩ := hrel
    rw [← HL.out] at hi
    have HP := Lib.hid hp
    have HX := Lib.hid hxr
    clear hp hxr
    have hw1i : IntKind.i64.wrap ((i : Int) + 1) = (i : Int) + 1 := IntWalk.i64_in _ (by omega)
    by_cases hin : i < n
    case neg =>
      obtain rfl : i = n := by omega
      have hin' : ¬ ((i : Int) < (i : Int)) := by omega
      have hinb : decide ((i : Int) < (i : Int)) = false := decide_eq_false hin'
      have HPE := Lib.hid (show putP T k x = T.take i ++ [(k, [x])] ++ T.drop i from by
        have hp := HP.out
        rw [HL.out, List.take_length] at hp
        rw [HL.out, List.take_length, List.drop_length, List.append_nil]
        exact put_end hp)
      have hs1 := fun W => hi33 A i c i hi hc HA.out W
      have hs2 := fun W => lo33 A i c i hi hc HA.out W
      obtain ⟨A1, c1, w2, r1, x2, o1⟩ := pu_one (c := c) HR1.out HX.out hi hn
      obtain ⟨A2, c2, w4, r2, x4, o2⟩ := pu_new o1 x2 (HTK.out i hi) (by omega) k x
      obtain ⟨A3, c3, w5, r3, hc3, o3, x5⟩ := pu_three (l := i) HR1.out o2 x4 (by rw [List.length_append, ← HTK.out i hi]; rfl) (by omega) hi hc hn
      obtain ⟨q0, q1, q2, q3⟩ := HQ.out _ x2
      generalize (A.map fun a => if c = i then a else a.add (i * 2)) = B at hs2 r3
      generalize c - i = ck at hs2 r3
      generalize hnk : i - i = nk at hs2 r3 hc3 o3
      have R1 := Lib.hid r1
      have R2 := Lib.hid r2
      have R3 := Lib.hid r3
      have HO3 := Lib.hid o3
      have HX5 := Lib.hid x5
      have HC3 := Lib.hid hc3
      clear r1 x2 o1 r2 x4 o2 r3 hc3 o3 x5 hnk
      go_wp2_with (first
        | (at_builtin; refine wpList_append_run (s := .tmp 24) (x := .tmp 27) R1.out rfl rfl rfl rfl rfl ?_)
        | (at_builtin; refine wpList_append_run (s := .tmp 60) (x := .tmp 65) R2.out rfl rfl rfl rfl rfl ?_)
        | (at_builtin; refine wpList_append_run (s := .tmp 67) (x := .tmp 70) R3.out rfl rfl rfl rfl rfl ?_))
      go_ret
      refine ⟨A3, _, c3, rfl, HC3.out, ?_, HX1.out.trans HX5.out⟩
      rw [HPE.out]
      exact HRF.out _ _ _ _ HO3.out
    have hI : (i : Int) < (n : Int) := by omega
    obtain ⟨y, hy⟩ : ∃ y, T[i]? = some y := ⟨_, List.getElem?_eq_getElem (by have := HL.out; omega)⟩
    obtain ⟨b, off, A2, n2, c2, rfl, hb, a0, a1, hnc2, hr2⟩ := it_at HR1.out hy
    have HYC := Lib.hid (fun X (hX : Ext w1 X) => (show X.cell? ⟨b, off + i * 2, none⟩ = some (.string ⟨y.1.toArray⟩) ∧ X.cell? ⟨b, off + i * 2 + 1, none⟩ = some (.slice A2 n2 c2) from ⟨(hX.cells.1 b _ hb).trans a0, (hX.cells.1 b _ hb).trans a1⟩))
    have HR2 := Lib.hid hr2
    have HN2 := Lib.hid (show n2 ≤ 40000000 by rw [Lay.row_len hr2]; exact HTB.out y (List.mem_of_getElem? hy))
    have HY := Lib.hid hy
    clear a0 a1 hy hr2
    obtain ⟨a0, a1⟩ := HYC.out _ HX.out
    cases hs : sLt y.1 k with
    | true =>
      have hbl : Op.bytesLess y.1 k = true := hs
      have HNX := Lib.hid (show ∀ y ∈ T.take (i + 1), sLt y.1 k = true from by
        intro y' hy'
        rw [List.take_add_one, HY.out] at hy'
        rcases List.mem_append.1 hy' with h8 | h8
        · exact HP.out y' h8
        · simp only [Option.toList_some, List.mem_singleton] at h8
          subst h8; exact hs)
      clear hs
      go_wp2_with fail
      go_roundw
      case rel => exact ⟨i + 1, by have := HL.out; omega, by go_num, HNX.out, HX.out⟩
      case measure => simp only [toM]; omega
    | false =>
      have hbl : Op.bytesLess y.1 k = false := hs
      have HPL := Lib.hid (put_here (x := x) HP.out HY.out hs)
      clear hs
      have hs1 := fun W => hi33 (some ⟨b, off, none⟩) n c i hi hc HA.out W
      obtain ⟨A1, c1, w2, r1, x2, o1⟩ := pu_one (c := c) HR1.out HX.out hi hn
      obtain ⟨q0, q1, q2, q3⟩ := HQ.out _ x2
      obtain ⟨e0, e1⟩ := HYC.out _ x2
      have R1 := Lib.hid r1
      clear r1
      by_cases hyk : y.1 = k
      · have hbq : (y.1 == k) = true := by simpa using hyk
        have HPE := Lib.hid (HPL.out.trans (if_pos hyk))
        have HCP := Lib.hid (fun X (hX : Ext w2 X) => pu_place o1 x2 hX (HTK.out i hi) (by omega) k x hnc2 HN2.out (Lay.row_mono HR2.out fun j hj hjl => ⟨hj, hjl⟩))
        have hs3 : ∀ W, (Instr.sliceAt 33 (.slice (some ⟨b, off, none⟩) n c) (some (.int .i64 ((i : Int) + 1))) none none).run Tryz.prog W = .ok (.slice ((some (⟨b, off, none⟩ : Addr)).map fun a => if c = i + 1 then a else a.add ((i + 1) * 2)) (n - (i + 1)) (c - (i + 1))) W := fun W => by
          have := lo33 (some ⟨b, off, none⟩) n c (i + 1) (by omega) hc HA.out W
          rwa [Int.natCast_add] at this
        have HTH := Lib.hid (fun (X : World) (A5 : Option Addr) (c5 : Nat) o5 x5 => pu_three (P := fun j => P j ∧ j < w1.heap.size) (w1 := w1) (X := X) (T := T) (T1 := T.take i ++ [(k, placeP y.2 x)]) (A := some ⟨b, off, none⟩) (A1 := A5) (n := n) (c := c) (i := i + 1) (c1 := c5) (l := i + 1) HR1.out o5 x5 (by rw [List.length_append, ← HTK.out i hi]; rfl) (by omega) (by omega) hc hn)
        generalize ((some (⟨b, off, none⟩ : Addr)).map fun a => if c = i + 1 then a else a.add ((i + 1) * 2)) = B at hs3 HTH
        generalize c - (i + 1) = ck at hs3 HTH
        generalize n - (i + 1) = nk at hs3 HTH
        have HS := Lib.hid (fun X (hX : Ext w1 X) => And.intro (HYC.out X hX).2 (HQ.out X hX))
        clear hyk o1
        have HX2 := Lib.hid x2
        clear x2
        go_upto_region 7 with (first | (at_builtin; refine wpList_append_run (s := .tmp 24) (x := .tmp 27) R1.out rfl rfl rfl rfl rfl ?_))
        have hcur : Ext w1 w2.drew := HX2.out.drew
        go_region_held3 (fun X => X.cell? ⟨b, off + i * 2 + 1, none⟩ = some (.slice A2 n2 c2) ∧ X.cell? ⟨z, 0, none⟩ = some (.int .i64 x.br) ∧ X.cell? ⟨z, 1, none⟩ = some (.int .i64 x.nu) ∧ X.cell? ⟨z, 2, none⟩ = some (.int .i64 x.su) ∧ X.cell? ⟨z, 3, none⟩ = some (.int .i64 x.li))
          (first | exact HS.out _ hcur | exact HS.out _ (hcur.alloc _)) (first
          | (go_at_call 120; refine (HCP.out _ (Ext.refl w2).drew).mono ?_; rintro e w3 ⟨B', m', d', rfl, x3, A5, c5, w4, r2, x4, o2⟩; obtain ⟨A6, c6, w5, r3, hc6, o6, x6⟩ := HTH.out _ _ _ o2 x4; have hcur := x3; have R2 := Lib.hid r2; have R3 := Lib.hid r3; have HC6 := Lib.hid hc6; have HO6 := Lib.hid o6; have HX6 := Lib.hid x6; have HX4 := Lib.hid x4; clear x3 r2 x4 o2 r3 hc6 o6 x6)
          | (have hcur := HX4.out; refine step_append_run (s := .tmp 42) (x := .tmp 52) R2.out rfl rfl rfl rfl rfl ?_))
        go_wp2_with (first
          | (at_builtin; refine wpList_append_run (s := .tmp 54) (x := .tmp 58) R3.out rfl rfl rfl rfl rfl ?_))
        go_ret
        refine ⟨A6, _, c6, rfl, HC6.out, ?_, HX1.out.trans HX6.out⟩
        rw [HPE.out]
        exact HRF.out _ _ _ _ HO6.out
      · have hbq : (y.1 == k) = false := by simpa using hyk
        have HPE := Lib.hid (HPL.out.trans (if_neg hyk))
        have hs2 := fun W => lo33 (some ⟨b, off, none⟩) n c i hi hc HA.out W
        obtain ⟨A5, c5, w4, r2, x4, o2⟩ := pu_new o1 x2 (HTK.out i hi) (by omega) k x
        obtain ⟨A6, c6, w5, r3, hc6, o6, x6⟩ := pu_three (l := i) HR1.out o2 x4 (by rw [List.length_append, ← HTK.out i hi]; rfl) (by omega) hi hc hn
        generalize ((some (⟨b, off, none⟩ : Addr)).map fun a => if c = i then a else a.add (i * 2)) = B at hs2 r3
        generalize c - i = ck at hs2 r3
        generalize n - i = nk at hs2 r3 hc6 o6
        have R2 := Lib.hid r2
        have R3 := Lib.hid r3
        have HC6 := Lib.hid hc6
        have HO6 := Lib.hid o6
        have HX6 := Lib.hid x6
        clear hyk o1 x2 r2 x4 o2 r3 hc6 o6 x6
        go_wp2_with (first
          | (at_builtin; refine wpList_append_run (s := .tmp 24) (x := .tmp 27) R1.out rfl rfl rfl rfl rfl ?_)
          | (at_builtin; refine wpList_append_run (s := .tmp 60) (x := .tmp 65) R2.out rfl rfl rfl rfl rfl ?_)
          | (at_builtin; refine wpList_append_run (s := .tmp 67) (x := .tmp 70) R3.out rfl rfl rfl rfl rfl ?_))
        go_ret
        refine ⟨A6, _, c6, rfl, HC6.out, ?_, HX1.out.trans HX6.out⟩
        rw [HPE.out]
        exact HRF.out _ _ _ _ HO6.out
end Go.Proofs.YtdbnddmncbjobaaGreatDoor

/- The reference's Table: walked. -/
namespace Go.Proofs.YtdbnddmncbjobaaGreatDoor
open Go Go.RowKit
attribute [local go_sem] Oper.semAt_some

/-- A table in memory, with at most M places. -/
structure TbV (W : World) (A : Option Addr) (n c : Nat) (T : Tb) (M : Nat) : Prop where
  row : kIt.row W (fun _ => True) A n T
  nc : n ≤ c
  reg : Reg T
  len : (prs T).length ≤ M
  key : ∀ x ∈ T, x.1.length ≤ 1000
theorem TbV.ext {W W' : World} {A : Option Addr} {n c : Nat} {T : Tb} {M : Nat} (h : TbV W A n c T M) (hx : Ext W W') : TbV W' A n c T M := ⟨Lay.row_ext h.row hx, h.nc, h.reg, h.len, h.key⟩
theorem TbV.n {W : World} {A : Option Addr} {n c : Nat} {T : Tb} {M : Nat} (h : TbV W A n c T M) : n = T.length ∧ n ≤ M ∧ ∀ x ∈ T, x.2.length ≤ M := by
  have h1 := Lay.row_len h.row
  have h2 := prs_le h.reg.some
  have h3 := h.len
  exact ⟨h1, by omega, fun x hx => Nat.le_trans (prs_mem_le hx) h.len⟩
theorem TbV.nil (W : World) (M : Nat) : TbV W none 0 0 [] M := ⟨Lay.row_nil _ _ _, Nat.le_refl _, reg_nil, Nat.zero_le _, fun x hx => by cases hx⟩
theorem TbV.mono {W : World} {A : Option Addr} {n c : Nat} {T : Tb} {M M' : Nat} (h : TbV W A n c T M) (hm : M ≤ M') : TbV W A n c T M' := ⟨h.row, h.nc, h.reg, Nat.le_trans h.len hm, h.key⟩
/-- Put at a table in memory. -/
theorem put_tb {w : World} {A : Option Addr} {n c : Nat} {T : Tb} {M : Nat} (h : TbV w A n c T M) (hM : M ≤ 40000000) (k : List UInt8) (hk : k.length ≤ 1000) (x : Ct) :
    Calls Tryz.prog 62 #[.slice A n c, .string ⟨k.toArray⟩, .agg #[.int .i64 x.br, .int .i64 x.nu, .int .i64 x.su, .int .i64 x.li]] w fun e w' => ∃ A' n' c', e = .returned (.slice A' n' c') ∧ TbV w' A' n' c' (putP T k x) (M + 1) ∧ Ext w w' := by
  obtain ⟨_, hn, hm⟩ := h.n
  refine (put_any _ w T k x A n c h.row h.nc (by omega) fun y hy => Nat.le_trans (hm y hy) hM).mono ?_
  rintro e w' ⟨A', n', c', rfl, hc', hr', hx⟩
  refine ⟨A', n', c', rfl, ⟨Lay.row_mono hr' fun _ _ _ => trivial, hc', reg_put T k x h.reg, Nat.le_trans (put_len T k x) (Nat.succ_le_succ h.len), fun y hy => ?_⟩, hx⟩
  rcases put_keys T k x y hy with e | hy
  · rw [e]; exact hk
  · exact h.key y hy
end Go.Proofs.YtdbnddmncbjobaaGreatDoor

/- Finding a key, in the reference and by binary search: walked. -/
namespace Go.Proofs.YtdbnddmncbjobaaGreatDoor
open Go Go.RowKit
attribute [local go_sem] Oper.semAt_some

theorem own_empty {β : Type} {k : Lay β} {e : TypeId} {X : World} {base : Nat} {P : Nat → Prop} (hb : base ≤ X.heap.size) : k.own e (X.alloc (.cells #[] e)) base P (.slice (some ⟨X.heap.size, 0, none⟩) 0 0) [] :=
  ⟨[], ⟨by simp [gcells], .inr ⟨X.heap.size, 0, #[], rfl, hb, heap_alloc_new X _, Nat.le_refl _, by simp [maxLen], by simp, by simp [gcells]⟩⟩, rfl, fun i d x hd => by simp at hd⟩
/-- A copy of places behind an empty slice. -/
theorem cp_ct {P : Nat → Prop} {w X : World} {A : Option Addr} {n c : Nat} {l : List Ct} (hr : kCt.row w P A n l) (hX : Ext w X) (hn : n ≤ 40000000) :
    ∃ A' c' w', (Builtin.append_ #[38, 38] 38 #[.slice (some ⟨X.heap.size, 0, none⟩) 0 0, .slice A n c]).run Tryz.prog (X.alloc (.cells #[] 69)) = .ok (.slice A' n c') w' ∧ n ≤ c' ∧ kCt.row w' (fun j => P j ∨ w.heap.size ≤ j) A' n l ∧ Ext w w' := by
  obtain ⟨A', c', w', r, o, hx⟩ := own_app (k := kCt) (Pr := Tryz.prog) (t := 38) (e := 69) Tryz.underlying38 info69 rfl (by decide) (by omega) (own_empty (P := P) (Nat.le_trans hX.lt (Nat.le_refl _))) (hX.alloc _) hr c (by simp; omega)
  simp only [List.length_nil, Nat.zero_add, List.nil_append] at r o
  obtain ⟨h1, h2⟩ := own_rowQ o
  exact ⟨A', c', w', r, h1, h2, hx⟩
theorem findP_take {T : Tb} {k : List UInt8} {i : Nat} {y : List UInt8 × List Ct} (h : ∀ y ∈ T.take i, y.1 ≠ k) (hy : T[i]? = some y) (hk : y.1 = k) : findP T k = some y.2 := by
  unfold findP
  have : T.find? (fun x => x.1 == k) = some y := by
    obtain ⟨hi, rfl⟩ := List.getElem?_eq_some_iff.1 hy
    conv => lhs; rw [← List.take_append_drop i T, List.drop_eq_getElem_cons hi]
    rw [List.find?_append, List.find?_eq_none.2 (fun x hx => by simpa using h x hx), Option.none_or, List.find?_cons, show (T[i].1 == k) = true by simpa using hk]
  rw [this]; rfl
theorem find_nope {T : Tb} {k : List UInt8} (h : ∀ y ∈ T, y.1 ≠ k) : findP T k = none := by
  unfold findP
  rw [List.find?_eq_none.2 (fun x hx => by simpa using h x hx)]; rfl
/-- What both ways of finding a key give. -/
def FindGet (w : World) (T : Tb) (k : List UInt8) (e : Ending) (w' : World) : Prop := ∃ A n c, e = .returned (.tuple #[.slice A n c, .bool (findP T k).isSome]) ∧ n ≤ c ∧ kCt.row w' (fun _ => True) A n (plc T k) ∧ Ext w w'
theorem FindGet.no {w w' : World} {T : Tb} {k : List UInt8} (h : findP T k = none) (hx : Ext w w') : FindGet w T k (.returned (.tuple #[.slice none 0 0, .bool false])) w' := by
  refine ⟨none, 0, 0, by rw [h]; rfl, Nat.le_refl _, ?_, hx⟩
  unfold plc; rw [h]; exact Lay.row_nil _ _ _
theorem FindGet.yes {w w' : World} {T : Tb} {k : List UInt8} {l : List Ct} {A : Option Addr} {n c : Nat} (h : findP T k = some l) (hc : n ≤ c) {P : Nat → Prop} (hr : kCt.row w' P A n l) (hx : Ext w w') : FindGet w T k (.returned (.tuple #[.slice A n c, .bool true])) w' := by
  refine ⟨A, n, c, by rw [h]; rfl, hc, ?_, hx⟩
  unfold plc; rw [h]; exact Lay.row_mono hr fun _ _ _ => trivial
/-- slices.Clone of places. -/
theorem clone_ct (P : Nat → Prop) (w : World) (A : Option Addr) (n c : Nat) (l : List Ct) (h : kCt.row w P A n l) (hn : n ≤ 40000000) :
    Calls Tryz.prog 69 #[.slice A n c] w fun e w' => ∃ A' c', e = .returned (.slice A' n c') ∧ n ≤ c' ∧ kCt.row w' (fun j => P j ∨ w.heap.size ≤ j) A' n l ∧ Ext w w' := by
  have q38 := fun (w : World) (a : Option Addr) (n c n' c' : Nat) => Lib.run_eql_slice_nil (P := Tryz.prog) w _ _ a n c n' c' Tryz.underlying38
  cases A with
  | none =>
    obtain rfl := row_A h rfl
    have hl := List.eq_nil_of_length_eq_zero (Lay.row_len h).symm
    subst hl
    go_enter Tryz.func69, Tryz.ntmps69
    go_wp2_with fail
    go_ret
    exact ⟨none, 0, rfl, Nat.le_refl _, Lay.row_nil _ _ _, Ext.refl _⟩
  | some a =>
    obtain ⟨A', c', w', r, hc', hr', hx'⟩ := cp_ct (c := c) h (Ext.refl w) hn
    have RUN := Lib.hid r
    have HR' := Lib.hid hr'
    have HX' := Lib.hid hx'
    clear h r hr' hx'
    go_enter Tryz.func69, Tryz.ntmps69
    go_wp2_with (first | (at_builtin; refine wpList_append_run (s := .tmp 5) (x := .tmp 6) RUN.out rfl rfl rfl rfl rfl ?_))
    go_ret
    exact ⟨A', c', rfl, hc', HR'.out, HX'.out⟩
set_option maxRecDepth 100000 in
theorem fcmp_any (a b : List UInt8) (u : Value) (w : World) : Calls Tryz.prog 67 #[.agg #[.string ⟨a.toArray⟩, u], .string ⟨b.toArray⟩] w fun e w' => e = .returned (.int .i64 (Lib.compareBytes a b)) ∧ Ext w w' := by
  have HC := Lib.hid (fun W => strcmp_any a b W)
  generalize Lib.compareBytes a b = r at HC ⊢
  have HX := Lib.hid ((Ext.refl w).alloc (.cells #[.string ⟨a.toArray⟩, u] 99))
  go_enter Tryz.func67, Tryz.ntmps67
  go_wp2_with (go_at_call 68; refine (HC.out _).mono ?_; rintro e w9 ⟨rfl, rfl⟩)
  go_ret
  exact ⟨rfl, HX.out⟩
theorem bs_find {T : Tb} (hT : Reg T) {k : List UInt8} {i : Nat} (h1 : ∀ y ∈ T.take i, sLt y.1 k = true) (h2 : ∀ y ∈ T.drop i, sLt y.1 k = false) : findP T k = match T[i]? with | some y => if y.1 = k then some y.2 else none | none => none := by
  cases hy : T[i]? with
  | none =>
    have : ∀ y ∈ T, y.1 ≠ k := fun y hm => sLt_ne (h1 y (by rw [List.take_of_length_le (by rw [List.getElem?_eq_none_iff] at hy; exact hy)]; exact hm))
    exact find_nope this
  | some y =>
    simp only
    split
    · next e => exact findP_take (fun y hm => sLt_ne (h1 y hm)) hy e
    · next e =>
      refine find_nope fun y' hm => ?_
      rw [← List.take_append_drop i T] at hm
      rcases List.mem_append.1 hm with hm | hm
      · exact sLt_ne (h1 y' hm)
      · obtain ⟨hi, rfl⟩ := List.getElem?_eq_some_iff.1 hy
        have hd : T.drop i = T[i] :: T.drop (i + 1) := List.drop_eq_getElem_cons hi
        have hpw := hT.keys
        rw [← List.take_append_drop i T, List.pairwise_append, hd, List.pairwise_cons] at hpw
        have h3 := h2 T[i] (by rw [hd]; exact .head _)
        rw [hd] at hm
        rcases List.mem_cons.1 hm with rfl | hm
        · exact e
        · intro e2
          have := hpw.2.1.1 y' hm
          rw [e2, h3] at this
          cases this
theorem bs_lt {T : Tb} (hT : Reg T) {k : List UInt8} {h : Nat} {y : List UInt8 × List Ct} (hy : T[h]? = some y) (hs : sLt y.1 k = true) : ∀ y' ∈ T.take (h + 1), sLt y'.1 k = true := by
  obtain ⟨hi, rfl⟩ := List.getElem?_eq_some_iff.1 hy
  intro y' hm
  obtain ⟨j, hj⟩ := List.getElem?_of_mem hm
  rw [List.getElem?_take] at hj
  split at hj
  · next hjh =>
    obtain ⟨hj1, rfl⟩ := List.getElem?_eq_some_iff.1 hj
    rcases Nat.lt_or_ge j h with h9 | h9
    · exact sLt_trans (List.pairwise_iff_getElem.1 hT.keys j h hj1 hi h9) hs
    · obtain rfl : j = h := by omega
      exact hs
  · cases hj
theorem bs_ge {T : Tb} (hT : Reg T) {k : List UInt8} {h : Nat} {y : List UInt8 × List Ct} (hy : T[h]? = some y) (hs : sLt y.1 k = false) : ∀ y' ∈ T.drop h, sLt y'.1 k = false := by
  obtain ⟨hi, rfl⟩ := List.getElem?_eq_some_iff.1 hy
  intro y' hm
  obtain ⟨j, hj⟩ := List.getElem?_of_mem hm
  rw [List.getElem?_drop] at hj
  obtain ⟨hj1, rfl⟩ := List.getElem?_eq_some_iff.1 hj
  rcases Nat.eq_zero_or_pos j with h9 | h9
  · subst h9; exact hs
  · cases h8 : sLt T[h + j].1 k with
    | false => rfl
    | true => rw [sLt_trans (List.pairwise_iff_getElem.1 hT.keys h (h + j) hi hj1 (by omega)) h8] at hs; cases hs
def BsR (w : World) (T : Tb) (k : List UInt8) (s9 s10 : Value) (W : World) : Prop := ∃ i j : Nat, i ≤ j ∧ j ≤ T.length ∧ s9 = .int .i64 i ∧ s10 = .int .i64 j ∧ (∀ y ∈ T.take i, sLt y.1 k = true) ∧ (∀ y ∈ T.drop j, sLt y.1 k = false) ∧ Ext w W
def bsM (s9 s10 : Value) : Nat := match s9, s10 with | .int _ a, .int _ b => (b - a).toNat | _, _ => 0
set_option maxHeartbeats 4000000 in
set_option maxRecDepth 100000 in
theorem bsearch_any (w : World) (T : Tb) (k : List UInt8) (A : Option Addr) (n c M : Nat) (h : TbV w A n c T M) (hM : M ≤ 40000000) :
    Calls Tryz.prog 66 #[.slice A n c, .string ⟨k.toArray⟩, .func (.func 67) #[] #[]] w fun e w' => ∃ i : Nat, e = .returned (.tuple #[.int .i64 i, .bool (findP T k).isSome]) ∧ (∀ l, findP T k = some l → ∃ y, T[i]? = some y ∧ y.2 = l) ∧ Ext w w' := by
  have HR := Lib.hid h.row
  obtain ⟨hn, hnM, hlm⟩ := h.n
  have HL := Lib.hid hn
  have HREG := Lib.hid h.reg
  have HCP := Lib.hid (fun a u W => fcmp_any a k u W)
  clear h hn hlm
  go_enter Tryz.func66, Tryz.ntmps66
  go_wp2_with fail
  go_loopw [9, 10] (fun s9 s10 W => BsR w T k s9 s10 W) (fun s9 s10 _ => bsM s9 s10)
  case atStart => exact ⟨0, n, by omega, by rw [HL.out]; exact Nat.le_refl _, rfl, rfl, by simp, by rw [HL.out, List.drop_length]; simp, Ext.refl _⟩
  case round =>
    obtain ⟨i, j, hij, hj, rfl, rfl, hp, hq, hx⟩ := hrel
    rw [← HL.out] at hj
    have HP := Lib.hid hp
    have HQ := Lib.hid hq
    have HX := Lib.hid hx
    clear hp hq hx
    by_cases hlt : i < j
    case neg =>
      obtain rfl : i = j := by omega
      have hni : ¬ ((i : Int) < (i : Int)) := by omega
      have HF := Lib.hid (bs_find HREG.out HP.out HQ.out)
      by_cases hin : i < n
      · obtain ⟨y, hy⟩ : ∃ y, T[i]? = some y := ⟨_, List.getElem?_eq_getElem (by have := HL.out; omega)⟩
        obtain ⟨b, off, A2, n2, c2, rfl, hb, a0, a1, _, _⟩ := it_at (Lay.row_ext HR.out HX.out) hy
        have HY := Lib.hid hy
        have hinI : (i : Int) < (n : Int) := by omega
        have HCY := Lib.hid (fun W => HCP.out y.1 (.slice A2 n2 c2) W)
        rw [hy] at HF
        clear hy
        by_cases hk : y.1 = k
        · have h0 : Lib.compareBytes y.1 k = 0 := (cmpB_eq _ _).2 hk
          have HF' := Lib.hid (HF.out.trans (if_pos hk))
          rw [h0] at HCY
          clear hk h0
          go_wp2_with (first | (go_at_call 67; refine (HCY.out _).mono ?_; rintro e w2 ⟨rfl, hx2⟩; have HX2 := Lib.hid hx2; clear hx2))
          refine bodyPost_ret (v := .tuple #[.int .i64 (i : Int), .bool true]) (by simp [results, Tryz.results66, go_sem]) rfl ?_
          exact ⟨i, by rw [HF'.out]; rfl, fun l hl => ⟨y, HY.out, by rw [HF'.out] at hl; exact Option.some.inj hl⟩, HX.out.trans HX2.out⟩
        · have h0 : Lib.compareBytes y.1 k ≠ 0 := fun e => hk ((cmpB_eq _ _).1 e)
          have HF' := Lib.hid (HF.out.trans (if_neg hk))
          generalize Lib.compareBytes y.1 k = r at HCY h0
          have h00 : (r == 0) = false := by simpa using h0
          clear hk h0
          go_wp2_with (first | (go_at_call 67; refine (HCY.out _).mono ?_; rintro e w2 ⟨rfl, hx2⟩; have HX2 := Lib.hid hx2; clear hx2))
          refine bodyPost_ret (v := .tuple #[.int .i64 (i : Int), .bool false]) (by simp [results, Tryz.results66, go_sem]) rfl ?_
          exact ⟨i, by rw [HF'.out]; rfl, fun l hl => (by rw [HF'.out] at hl; cases hl), HX.out.trans HX2.out⟩
      · have hinI : ¬ ((i : Int) < (n : Int)) := by omega
        have hinb : decide ((i : Int) < (n : Int)) = false := decide_eq_false hinI
        have HF' := Lib.hid (show findP T k = none by have h9 := HF.out; rw [List.getElem?_eq_none (by have := HL.out; omega)] at h9; exact h9)
        go_wp2_with fail
        refine bodyPost_ret (v := .tuple #[.int .i64 (i : Int), .bool false]) (by simp [results, Tryz.results66, go_sem]) rfl ?_
        exact ⟨i, by rw [HF'.out]; rfl, fun l hl => (by rw [HF'.out] at hl; cases hl), HX.out⟩
    have hI : (i : Int) < (j : Int) := by omega
    obtain ⟨h, hh, hih, hhj⟩ : ∃ h : Nat, ((i : Int) + (j : Int)) / 2 = (h : Int) ∧ i ≤ h ∧ h < j := ⟨(i + j) / 2, by omega, by omega, by omega⟩
    obtain ⟨y, hy⟩ : ∃ y, T[h]? = some y := ⟨_, List.getElem?_eq_getElem (by have := HL.out; omega)⟩
    obtain ⟨b, off, A2, n2, c2, rfl, hb, a0, a1, _, _⟩ := it_at (Lay.row_ext HR.out HX.out) hy
    have hhI : (h : Int) < (n : Int) := by omega
    have HCY := Lib.hid (fun W => HCP.out y.1 (.slice A2 n2 c2) W)
    have HLE := Lib.hid (cmpB_lt y.1 k)
    generalize Lib.compareBytes y.1 k = r at HCY HLE
    have hw1 : IntKind.i64.wrap ((h : Int) + 1) = (h : Int) + 1 := IntWalk.i64_in _ (by omega)
    cases hs : sLt y.1 k with
    | true =>
      have hr0 : r < 0 := HLE.out.2 hs
      have HN := Lib.hid (bs_lt HREG.out hy hs)
      clear hs hy
      go_wp2_with (first | (go_at_call 67; refine (HCY.out _).mono ?_; rintro e w2 ⟨rfl, hx2⟩; have HX2 := Lib.hid hx2; clear hx2))
      go_roundw
      case rel => exact ⟨h + 1, j, by omega, by have := HL.out; omega, by go_num, rfl, HN.out, HQ.out, HX.out.trans HX2.out⟩
      case measure => simp only [bsM]; omega
    | false =>
      have hr0 : ¬ r < 0 := fun h9 => by rw [HLE.out.1 h9] at hs; cases hs
      have HN := Lib.hid (bs_ge HREG.out hy hs)
      clear hs hy
      go_wp2_with (first | (go_at_call 67; refine (HCY.out _).mono ?_; rintro e w2 ⟨rfl, hx2⟩; have HX2 := Lib.hid hx2; clear hx2))
      go_roundw
      case rel => exact ⟨i, h, hih, by have := HL.out; omega, rfl, rfl, HP.out, HN.out, HX.out.trans HX2.out⟩
      case measure => simp only [bsM]; omega
set_option maxHeartbeats 4000000 in
set_option maxRecDepth 100000 in
/-- index.Find. -/
theorem ifind_any (w : World) (T : Tb) (k : List UInt8) (A : Option Addr) (n c M : Nat) (h : TbV w A n c T M) (hM : M ≤ 40000000) : Calls Tryz.prog 23 #[.slice A n c, .string ⟨k.toArray⟩] w (FindGet w T k) := by
  have HB := Lib.hid (bsearch_any w T k A n c M h hM)
  have HR := Lib.hid h.row
  obtain ⟨hn, hnM, hlm⟩ := h.n
  have HL := Lib.hid hn
  have HM := Lib.hid hlm
  clear h hn hlm
  cases hf : findP T k with
  | none =>
    have HF := Lib.hid hf
    clear hf
    rw [HF.out] at HB
    go_enter Tryz.func23, Tryz.ntmps23
    go_wp2_with (first | (go_at_call 66; refine (HB.out).mono ?_; rintro e w2 ⟨i, rfl, _, hx2⟩; have HX2 := Lib.hid hx2; clear hx2))
    refine bodyPost_ret (v := .tuple #[.slice none 0 0, .bool false]) (by simp [results, Tryz.results23, go_sem]) rfl ?_
    exact FindGet.no HF.out HX2.out
  | some l =>
    have HF := Lib.hid hf
    clear hf
    rw [HF.out] at HB
    go_enter Tryz.func23, Tryz.ntmps23
    go_upto_region 4 with (first | (go_at_call 66; refine (HB.out).mono ?_; rintro e w2 ⟨i, rfl, hl, hx2⟩; have HX2 := Lib.hid hx2; have HLI := Lib.hid (hl l rfl); clear hl hx2))
    obtain ⟨y, hy, hyl⟩ := HLI.out
    obtain ⟨b, off, A2, n2, c2, rfl, hb, a0, a1, hnc2, hr2⟩ := it_at (Lay.row_ext HR.out HX2.out) hy
    have hin : (i : Int) < (n : Int) := by have := (List.getElem?_eq_some_iff.1 hy).1; have := HL.out; omega
    have hn2 : n2 ≤ 40000000 := by rw [Lay.row_len hr2]; exact Nat.le_trans (HM.out y (List.mem_of_getElem? hy)) hM
    rw [hyl] at hr2
    have HC := Lib.hid (clone_ct _ w2 A2 n2 c2 l hr2 hn2)
    clear hy hyl hr2
    go_wp2_with (first | (go_at_call 69; refine (HC.out).mono ?_; rintro e w3 ⟨A3, c3, rfl, hc3, hr3, hx3⟩; have HR3 := Lib.hid hr3; have HX3 := Lib.hid hx3; clear hr3 hx3))
    refine bodyPost_ret (v := .tuple #[.slice A3 n2 c3, .bool true]) (by simp [results, Tryz.results23, go_sem]) rfl ?_
    exact FindGet.yes HF.out hc3 HR3.out (HX2.out.trans HX3.out)
end Go.Proofs.YtdbnddmncbjobaaGreatDoor

/- A row of items as they lie: sorted by their keys. -/
namespace Go.Proofs.YtdbnddmncbjobaaGreatDoor
open Go Go.RowKit Go.Sort
attribute [local go_sem] Oper.semAt_some

theorem itCs_one (x : ItV) : ∀ u ∈ itCs x, u.oneCell' = true := fun u hu => by
  simp only [itCs, List.mem_cons, List.not_mem_nil, or_false] at hu
  rcases hu with rfl | rfl <;> rfl
/-- Items as they lie: a key and a slice. -/
def kIv : Lay ItV where
  sz := 2
  rep _ _ x cs := cs = itCs x
  len h := by subst h; rfl
  one h := by subst h; exact itCs_one _
  keep h _ _ := h
  mono h _ := h
theorem iv_cells {W : World} {B : Nat} {P : Nat → Prop} {v : Value} {xs : List ItV} (h : kIv.own 99 W B P v xs) : W.ownsRow B 99 2 v xs.length (xs.flatMap itCs) := by
  obtain ⟨ds, h1, h2, h3⟩ := h
  have e : gcells ccf ds = xs.flatMap itCs := by
    have : ∀ (ds : List (Cs kIv.sz)) (xs : List ItV), ds.length = xs.length → (∀ (i : Nat) (d : Cs kIv.sz) (x : ItV), ds[i]? = some d → xs[i]? = some x → ccf d = itCs x) → gcells ccf ds = xs.flatMap itCs := by
      intro ds
      induction ds with
      | nil => intro xs hl _; cases xs with
        | nil => rfl
        | cons x xs => simp at hl
      | cons d ds ih => intro xs hl hh; cases xs with
        | nil => simp at hl
        | cons x xs =>
          have h0 := hh 0 d x rfl rfl
          have h1 := ih xs (by simpa using hl) fun i d x hd hx => hh (i + 1) d x (by simpa using hd) (by simpa using hx)
          unfold gcells at h1 ⊢
          rw [List.flatMap_cons, List.flatMap_cons, h0, h1]
    exact this ds xs h2 fun i d x hd hx => h3 i d x hd hx
  unfold OL at h1
  rw [h2, e] at h1
  exact h1
def ivC (x : ItV) : Cs kIv.sz := ⟨itCs x, rfl, itCs_one x⟩
theorem gcells_ivC (xs : List ItV) : gcells ccf (xs.map ivC) = xs.flatMap itCs := by
  induction xs with
  | nil => rfl
  | cons x xs ih => unfold gcells at ih ⊢; rw [List.map_cons, List.flatMap_cons, List.flatMap_cons, ih]; rfl
theorem cells_iv {W : World} {B : Nat} {P : Nat → Prop} {v : Value} {xs : List ItV} (h : W.ownsRow B 99 2 v xs.length (xs.flatMap itCs)) : kIv.own 99 W B P v xs := by
  refine ⟨xs.map ivC, ?_, List.length_map _, fun i d x hd hx => ?_⟩
  · unfold OL
    rw [gcells_ivC, List.length_map]
    exact h
  · rw [List.getElem?_map, hx] at hd
    simp only [Option.map_some, Option.some.injEq] at hd
    subst hd
    rfl
instance : Inhabited ItV := ⟨⟨[], none, 0, 0⟩⟩
theorem sort_iown (w : World) (B : Nat) (v : Value) (xs : List ItV) (h : kIv.own 99 w B (fun _ => False) v xs) (hne : xs ≠ []) (hl : xs.length ≤ 100000000) :
    Calls Tryz.prog 114 #[v, .func (.func 115) #[] #[]] w fun e w' => e = .returned (.tuple #[]) ∧ ∃ ys, ys.Perm xs ∧ (ys.Pairwise fun a b => sLt b.1 a.1 = false) ∧ kIv.own 99 w' B (fun _ => False) v ys ∧ w.grownBy w' v.ownBlock := by
  have hc := iv_cells h
  rcases hc.2 with ⟨_, h0⟩ | ⟨g, cap, cur, rfl, hbase, hb, h1, h2, h3, h4⟩
  · exact absurd (List.length_eq_zero_iff.1 h0) hne
  have hk : ∀ x, (itCs x).length = 2 := fun _ => rfl
  have hg : g < w.heap.size := (Array.getElem?_eq_some_iff.1 hb).1
  have hs := sort_it g cap xs.toArray w (holdsK_block hk hb h4) hg (by simp; omega)
  rw [List.size_toArray] at hs
  refine hs.mono ?_
  rintro e w' ⟨he, d', n, os, hp, hsr, rfl⟩
  have hsz : d'.size = xs.length := by have := hp.1; simpa using this
  have hp' : d'.toList.Perm xs := by
    have := perm_all (d := xs.toArray) (d' := d') (by simpa using hp)
    simpa using this
  refine ⟨he, d'.toList, hp', ?_, ?_, ?_⟩
  · refine (sorted_all (by rw [hsz]) hsr).imp fun {a b} hab => ?_
    simp only [ltOf, decide_eq_false_iff_not, cmpB_lt] at hab
    simpa using hab
  · have h9 := ownsRow_sortedK (enc := itCs) hk (w := w) (base := B) (g := g) (cap := cap) (n := n) (os := os) (ts := d'.toList) (m := xs.length) (by simpa using hsz) hbase hb h1 h2 h3
    have e2 : d'.toList.length = xs.length := by simpa using hsz
    rw [← e2] at h9 ⊢
    exact cells_iv (by simpa using h9)
  · exact grown_sortedK d'
set_option maxHeartbeats 2000000 in
theorem ins_none (p : Option Addr) (cap : Nat) (fv : Value) (w : World) : Calls Tryz.prog 170 #[.slice p 0 cap, .int .i64 0, .int .i64 0, fv] w fun e w' => e = .returned (.tuple #[]) ∧ w' = w := by
  go_enter Tryz.func170, Tryz.ntmps170
  go_wp2
  refine wp_loop_rounds 1 ?_
  rw [rounds_succ]
  go_wp2
  go_end0
  exact ⟨rfl, rfl⟩
set_option maxHeartbeats 2000000 in
theorem pdq_none (p : Option Addr) (cap : Nat) (lim : Int) (fv : Value) (w : World) : Calls Tryz.prog 144 #[.slice p 0 cap, .int .i64 0, .int .i64 0, .int .i64 lim, fv] w fun e w' => e = .returned (.tuple #[]) ∧ w' = w := by
  have HI := Lib.hid (fun W => ins_none p cap fv W)
  go_enter Tryz.func144, Tryz.ntmps144
  go_wp2
  refine wp_loop_rounds 1 ?_
  rw [rounds_succ]
  go_wp2_with (first | (go_at_call 170; refine (HI.out _).mono ?_; rintro e w' ⟨rfl, rfl⟩))
  (try simp only [Exit.inBlock, Exit.then]); refine bodyPost_ret (results_none rfl _ _ _) rfl ?_
  exact ⟨rfl, rfl⟩
theorem sort_none (p : Option Addr) (cap : Nat) (fv : Value) (w : World) : Calls Tryz.prog 114 #[.slice p 0 cap, fv] w fun e w' => e = .returned (.tuple #[]) ∧ w' = w := by
  have HP := Lib.hid (fun lim W => pdq_none p cap lim fv W)
  have HB := Lib.hid (fun W => (show Calls Tryz.prog 141 #[.int .u64 0] W fun e w' => e = .returned (.int .i64 (Lib.bitLen 0 : Nat)) ∧ w' = W from Any.bits_Len (SlLaysF0.n15.bits (P := Tryz.prog) (ρ := Tryz.sortIt_ren) { Tryz.sortIt with }) 0 W (by omega) (by omega)))
  go_enter Tryz.func114, Tryz.ntmps114
  go_wp2_with (first
    | (go_at_call 141; refine (HB.out _).mono ?_; rintro e w' ⟨rfl, rfl⟩)
    | (go_at_call 144; refine (HP.out _ _).mono ?_; rintro e w' ⟨rfl, rfl⟩))
  go_end0
  exact ⟨rfl, rfl⟩
end Go.Proofs.YtdbnddmncbjobaaGreatDoor

/- The reference's Merge: walked. -/
namespace Go.Proofs.YtdbnddmncbjobaaGreatDoor
open Go Go.RowKit
attribute [local go_sem] Oper.semAt_some

theorem tab_snoc (hs : List (List UInt8 × Ct)) (k : List UInt8) (c : Ct) : tabP (hs ++ [(k, c)]) = putP (tabP hs) k c := by
  unfold tabP; rw [List.foldl_append]; rfl
/-- The table of hits in memory. -/
abbrev TbH (W : World) (A : Option Addr) (n c : Nat) (hs : List (List UInt8 × Ct)) : Prop := TbV W A n c (tabP hs) hs.length
theorem put_hs {w : World} {A : Option Addr} {n c : Nat} {hs : List (List UInt8 × Ct)} (h : TbH w A n c hs) (hM : hs.length ≤ 40000000) (k : List UInt8) (hk : k.length ≤ 1000) (x : Ct) :
    Calls Tryz.prog 62 #[.slice A n c, .string ⟨k.toArray⟩, .agg #[.int .i64 x.br, .int .i64 x.nu, .int .i64 x.su, .int .i64 x.li]] w fun e w' => ∃ A' n' c', e = .returned (.slice A' n' c') ∧ TbH w' A' n' c' (hs ++ [(k, x)]) ∧ Ext w w' := by
  refine (put_tb h hM k hk x).mono ?_
  rintro e w' ⟨A', n', c', rfl, hT, hx⟩
  refine ⟨A', n', c', rfl, ?_, hx⟩
  unfold TbH
  rw [tab_snoc, List.length_append]
  exact hT
theorem prs_take {U : Tb} {i : Nat} {x : List UInt8 × List Ct} (h : U[i]? = some x) : prs (U.take (i + 1)) = prs (U.take i) ++ x.2.map fun c => (x.1, c) := by
  rw [List.take_add_one, h, prs_append]
  simp [prs]
theorem prs_take_le (U : Tb) (i : Nat) : (prs (U.take i)).length ≤ (prs U).length := by
  conv => rhs; rw [← List.take_append_drop i U]
  rw [prs_append, List.length_append]; omega
def MoR (w : World) (U : Tb) (N : Nat) (s5 s6 : Value) (W : World) : Prop := ∃ (i : Nat) (A : Option Addr) (n c : Nat), i ≤ N ∧ s6 = .int .i64 i ∧ s5 = .slice A n c ∧ TbH W A n c (prs (U.take i)) ∧ Ext w W
def MiR (wi : World) (hs : List (List UInt8 × Ct)) (x : List UInt8 × List Ct) (s5 s8 : Value) (W : World) : Prop := ∃ (k : Nat) (A : Option Addr) (n c : Nat), k ≤ x.2.length ∧ s8 = .int .i64 k ∧ s5 = .slice A n c ∧ TbH W A n c (hs ++ (x.2.take k).map fun c => (x.1, c)) ∧ Ext wi W
set_option maxHeartbeats 4000000 in
set_option maxRecDepth 100000 in
theorem rmerge_any (w : World) (A A' : Option Addr) (n n' c c' M M' : Nat) (S T : Tb) (hS : TbV w A n c S M) (hT : TbV w A' n' c' T M') (hM : M + M' ≤ 40000000) :
    Calls Tryz.prog 26 #[.slice A n c, .slice A' n' c'] w fun e w' => ∃ A1 n1 c1, e = .returned (.slice A1 n1 c1) ∧ TbV w' A1 n1 c1 (mrgP S T) (M + M') ∧ Ext w w' := by
  have HS := Lib.hid hS
  have HT := Lib.hid hT
  obtain ⟨hn, hnM, _⟩ := hS.n
  obtain ⟨hn', hnM', _⟩ := hT.n
  have HN := Lib.hid hn
  have HN' := Lib.hid hn'
  obtain ⟨U, hU⟩ : ∃ U, S ++ T = U := ⟨_, rfl⟩
  have HUL := Lib.hid (show U.length = n + n' by rw [← hU, List.length_append, hn, hn'])
  have HUP := Lib.hid (show (prs U).length ≤ M + M' by rw [← hU, prs_append, List.length_append]; have := hS.len; have := hT.len; omega)
  have HUK := Lib.hid (show ∀ x ∈ U, x.1.length ≤ 1000 by
    rw [← hU]; intro x hx
    rcases List.mem_append.1 hx with hx | hx
    · exact hS.key x hx
    · exact hT.key x hx)
  have HUS := Lib.hid (show ∀ i, i < n → U[i]? = S[i]? from fun i hi => by rw [← hU, List.getElem?_append_left (by omega)])
  have HUT := Lib.hid (show ∀ i, n ≤ i → U[i]? = T[i - n]? from fun i hi => by rw [← hU, List.getElem?_append_right (by omega), hn])
  have HMR := Lib.hid (show tabP (prs U) = mrgP S T by unfold mrgP; rw [← hU, prs_append])
  clear hS hT hn hn' hU
  have hwn : IntKind.i64.wrap ((n : Int) + (n' : Int)) = (n : Int) + (n' : Int) := IntWalk.i64_in _ (by omega)
  go_enter Tryz.func26, Tryz.ntmps26
  go_wp2_with fail
  go_loopw [5, 6] (fun s5 s6 W => MoR w U (n + n') s5 s6 W) (fun _ s6 _ => toM (n + n') s6)
  case atStart => exact ⟨0, none, 0, 0, by omega, rfl, rfl, TbV.nil _ _, Ext.refl _⟩
  case round =>
    obtain ⟨i, A1, n1, c1, hi, rfl, rfl, hT1, hx1⟩ := hrel
    have HT1 := Lib.hid hT1
    have HX1 := Lib.hid hx1
    clear hT1 hx1
    have hw1 : IntKind.i64.wrap ((i : Int) + 1) = (i : Int) + 1 := IntWalk.i64_in _ (by omega)
    by_cases hlt : i < n + n'
    case neg =>
      have hni : ¬ ((i : Int) < (n : Int) + (n' : Int)) := by omega
      go_wp2_with fail
      go_ret
      have h9 := HT1.out
      rw [List.take_of_length_le (by rw [HUL.out]; omega)] at h9
      refine ⟨A1, n1, c1, rfl, ?_, HX1.out⟩
      rw [← HMR.out]
      exact h9.mono HUP.out
    have hI : (i : Int) < (n : Int) + (n' : Int) := by omega
    obtain ⟨x, hx⟩ : ∃ x, U[i]? = some x := ⟨_, List.getElem?_eq_getElem (by rw [HUL.out]; exact hlt)⟩
    have HUX := Lib.hid hx
    have hxk : x.1.length ≤ 1000 := HUK.out x (List.mem_of_getElem? hx)
    have HXK := Lib.hid hxk
    have HHS := Lib.hid (show (prs (U.take i)).length + x.2.length ≤ 40000000 by
      have := prs_take hx
      have h8 := prs_take_le U (i + 1)
      rw [this, List.length_append, List.length_map] at h8
      have := HUP.out
      omega)
    have HNX := Lib.hid (prs_take hx)
    generalize prs (U.take i) = hs at HT1 HHS HNX
    obtain ⟨b, off, A2, n2, c2, j, hb, a0, a1, hnc2, hr2, hbr⟩ : ∃ (b off : Nat) (A2 : Option Addr) (n2 c2 j : Nat), b < w.heap.size ∧ w.cell? ⟨b, off + j * 2, none⟩ = some (.string ⟨x.1.toArray⟩) ∧ w.cell? ⟨b, off + j * 2 + 1, none⟩ = some (.slice A2 n2 c2) ∧ n2 ≤ c2 ∧ kCt.row w (fun _ => True) A2 n2 x.2 ∧
        ((i < n ∧ j = i ∧ A = some ⟨b, off, none⟩) ∨ (n ≤ i ∧ j = i - n ∧ A' = some ⟨b, off, none⟩)) := by
      by_cases hin : i < n
      · rw [HUS.out i hin] at hx
        obtain ⟨b, off, A2, n2, c2, e, hb, a0, a1, hnc2, hr2⟩ := it_at HS.out.row hx
        exact ⟨b, off, A2, n2, c2, i, hb, a0, a1, hnc2, hr2, .inl ⟨hin, rfl, e⟩⟩
      · rw [HUT.out i (by omega)] at hx
        obtain ⟨b, off, A2, n2, c2, e, hb, a0, a1, hnc2, hr2⟩ := it_at HT.out.row hx
        exact ⟨b, off, A2, n2, c2, i - n, hb, a0, a1, hnc2, hr2, .inr ⟨by omega, rfl, e⟩⟩
    have hY0 : ∀ o, (wr.alloc o).cell? ⟨b, off + j * 2, none⟩ = some (.string ⟨x.1.toArray⟩) := fun o => ((HX1.out.alloc o).cells.1 b _ hb).trans a0
    have hY1 : ∀ o, (wr.alloc o).cell? ⟨b, off + j * 2 + 1, none⟩ = some (.slice A2 n2 c2) := fun o => ((HX1.out.alloc o).cells.1 b _ hb).trans a1
    obtain ⟨z, hz⟩ : ∃ z, wr.heap.size = z := ⟨_, rfl⟩
    obtain ⟨w2, hw2⟩ : ∃ w2, wr.alloc (.cells #[.string ⟨x.1.toArray⟩, .slice A2 n2 c2] 99) = w2 := ⟨_, rfl⟩
    have hx2 : Ext wr w2 := by rw [← hw2]; exact (Ext.refl wr).alloc _
    have hB : w2.heap[z]? = some (.cells #[.string ⟨x.1.toArray⟩, .slice A2 n2 c2] 99 (0, 0)) := by rw [← hw2, ← hz]; exact heap_alloc_new _ _
    have hzl := lt_of_block hB
    have HQ := Lib.hid (fun X (hX : Ext w2 X) => (show X.cell? ⟨z, 0, none⟩ = some (.string ⟨x.1.toArray⟩) ∧ X.cell? ⟨z, 1, none⟩ = some (.slice A2 n2 c2) from
      have h9 := (hX.block _ hzl).trans hB
      ⟨cell_of h9 (i := 0) rfl, cell_of h9 (i := 1) rfl⟩))
    have HR2 := Lib.hid (fun X (hX : Ext w2 X) => Lay.row_ext hr2 ((HX1.out.trans hx2).trans hX))
    have HN2 := Lib.hid (Lay.row_len hr2)
    have HT2 := Lib.hid (HT1.out.ext hx2)
    have HX2 := Lib.hid (HX1.out.trans hx2)
    clear hx hxk a0 a1 hr2 hx2 hB hzl HT1 HUP HUK HUS HUT HMR HS HT
    rcases hbr with ⟨hin, rfl, rfl⟩ | ⟨hin, hj, rfl⟩
    case' inl =>
      have hin' : (j : Int) < (n : Int) := by omega
      go_wp2_with fail
    case' inr =>
      have hin' : ¬ ((i : Int) < (n : Int)) := by omega
      have hji : IntKind.i64.wrap ((i : Int) - (n : Int)) = (j : Int) := by rw [hj]; rw [IntWalk.i64_in _ (by omega)]; omega
      have hjn : (j : Int) < (n' : Int) := by omega
      clear hj
      go_wp2_with fail
    all_goals
      go_loopw [5, 8] (fun s5 s8 W => MiR w2 hs x s5 s8 W) (fun _ s8 _ => toM n2 s8)
      case atStart => exact ⟨0, A1, n1, c1, by omega, rfl, rfl, by simpa using HT2.out, Ext.refl _⟩
      case round =>
        obtain ⟨k, A3, n3, c3, hk, rfl, rfl, hT3, hx3⟩ := hrel
        rename World => wq
        have HT3 := Lib.hid hT3
        have HX3 := Lib.hid hx3
        obtain ⟨q0, q1⟩ := HQ.out _ hx3
        clear hT3 hx3
        have hwk : IntKind.i64.wrap ((k : Int) + 1) = (k : Int) + 1 := IntWalk.i64_in _ (by have := HHS.out; omega)
        by_cases hk2 : k < n2
        case neg =>
          have hnk : ¬ ((k : Int) < (n2 : Int)) := by omega
          have HT4 := Lib.hid (show TbH wq A3 n3 c3 (hs ++ x.2.map fun c => (x.1, c)) from by
            have h9 := HT3.out
            rwa [List.take_of_length_le (by have := HN2.out; omega)] at h9)
          rw [← HNX.out] at HT4
          go_wp2_with fail
          go_roundw
          case rel => exact ⟨_ + 1, A3, n3, c3, by omega, by go_num, rfl, HT4.out, HX2.out.trans HX3.out⟩
          case measure => simp only [toM]; omega
        have hkI : (k : Int) < (n2 : Int) := by omega
        obtain ⟨y, hy⟩ : ∃ y, x.2[k]? = some y := ⟨_, List.getElem?_eq_getElem (by have := HN2.out; omega)⟩
        obtain ⟨b2, off2, rfl, hb2, _, e0, e1, e2, e3⟩ := ct_at (HR2.out _ HX3.out) hy
        have HPU := Lib.hid (put_hs (HT3.out.ext (Ext.refl wq).drew) (by rw [List.length_append, List.length_map, List.length_take]; have := HHS.out; omega) x.1 HXK.out y)
        have HTK := Lib.hid (show (hs ++ (x.2.take k).map fun c => (x.1, c)) ++ [(x.1, y)] = hs ++ (x.2.take (k + 1)).map fun c => (x.1, c) from by rw [List.take_add_one, hy]; simp)
        clear hy
        go_upto_region 12 with (fail)
        go_still_tail 8, (by kernel_rfl)
        change wpList _ _ _ _ _ wq.drew
        go_wp2_with (first
          | (go_at_call 62; refine (HPU.out).mono ?_; rintro e w5 ⟨A5, n5, c5, rfl, hT5, hx5⟩; have HT5 := Lib.hid hT5; have HX5 := Lib.hid hx5; clear hT5 hx5))
        go_roundw
        case rel => exact ⟨k + 1, A5, n5, c5, by have := HN2.out; omega, by go_num, rfl, by have h9 := HT5.out; rw [HTK.out] at h9; exact h9, (HX3.out.drew).trans HX5.out⟩
        case measure => simp only [toM]; omega
end Go.Proofs.YtdbnddmncbjobaaGreatDoor

/- The items of a map of rows: walked. -/
namespace Go.Proofs.YtdbnddmncbjobaaGreatDoor
open Go Go.RowKit Go.Maps Go.Sort
attribute [local go_sem] Oper.semAt_some

theorem items_tab {hs : List (List UInt8 × Ct)} {T : Tb} (h1 : ∀ x ∈ T, csOf hs x.1 ≠ [] ∧ ∃ ys : List Ct, ys.Perm (csOf hs x.1) ∧ (ys.Pairwise fun a b => ¬ CLt b a) ∧ x.2 = dedP ys) (h2 : ∀ k, csOf hs k ≠ [] → ∃ l, (k, l) ∈ T) (h3 : T.Pairwise fun x y => sLt x.1 y.1 = true) : T = tabP hs := by
  have hR : Reg T := by
    refine ⟨h3, fun x hx => ?_, fun x hx => ?_⟩
    · obtain ⟨h4, ys, h5, h6, h7⟩ := h1 x hx
      rw [h7]
      exact ded_ne fun e => h4 (by rw [e] at h5; exact List.Perm.nil_eq h5 ▸ rfl)
    · obtain ⟨h4, ys, h5, h6, h7⟩ := h1 x hx
      rw [h7]; exact ded_rise _ h6
  refine tab_eq hR fun k c => ?_
  rw [← mem_csOf]
  constructor
  · rintro ⟨l, hm, hc⟩
    obtain ⟨h4, ys, h5, h6, h7⟩ := h1 _ hm
    simp only at h7 h5
    rw [h7, ded_mem] at hc
    exact h5.mem_iff.1 hc
  · intro hc
    have hne : csOf hs k ≠ [] := fun e => by rw [e] at hc; cases hc
    obtain ⟨l, hm⟩ := h2 k hne
    obtain ⟨h4, ys, h5, h6, h7⟩ := h1 _ hm
    simp only at h7 h5
    exact ⟨l, hm, by rw [h7, ded_mem]; exact h5.mem_iff.2 hc⟩
theorem key_inv {x : Value} {kl : Lit} (h : keyOf Tryz.prog 9 x = some kl) : ∃ s : List UInt8, x = .string ⟨s.toArray⟩ ∧ kl = .string s ∧ s.length ≤ maxLen := by
  obtain ⟨⟨s⟩, rfl, rfl, hs⟩ := WideMaps.string_of_keyOf Tryz.underlying9 h
  exact ⟨s.toList, by simp, rfl, by simpa [ByteArray.size] using hs⟩
theorem same_str (k s : List UInt8) : (Lit.string k).sameKey (.string s) = decide (k = s) := by
  rw [Bool.eq_iff_iff]; simp [Lit.sameKey]
def itS (x : ItV) : Value := .slice x.2.1 x.2.2.1 x.2.2.2
/-- What holds of the rows of the map all the time. -/
structure ItmG (B b r : Nat) (hs : List (List UInt8 × Ct)) (D : DV) : Prop where
  ap : ∀ k k' v v', k ≠ k' → csOf hs k ≠ [] → csOf hs k' ≠ [] → AtK D k v → AtK D k' v' → ∀ j, v.ownBlock = some j → v'.ownBlock ≠ some j
  lt : ∀ k v, csOf hs k ≠ [] → AtK D k v → ∀ j, v.ownBlock = some j → B ≤ j ∧ j < r
  bB : b < B
  Br : B ≤ r
/-- Between two rounds of the range over the map. -/
structure ItmR (B b r n : Nat) (hs : List (List UInt8 × Ct)) (D : DV) (w : World) (left : Lit → Bool) (cnt : Nat) (out : Value) (its : List ItV) (W : World) : Prop where
  rg : W.ranges Tryz.prog 9 rV b r n D left cnt
  todo : ∀ k v, csOf hs k ≠ [] → left (.string k) = true → AtK D k v → kCt.own 69 W B (fun _ => False) v (csOf hs k)
  own : kIv.own 99 W (r + 1) (fun _ => False) out its
  done : ∀ x ∈ its, csOf hs x.1 ≠ [] ∧ left (.string x.1) = false ∧ (∀ v, AtK D x.1 v → v.ownBlock = (itS x).ownBlock) ∧ (∃ v, AtK D x.1 v) ∧ ∃ ys : List Ct, ys.Perm (csOf hs x.1) ∧ (ys.Pairwise fun a b => ¬ CLt b a) ∧ kCt.own 69 W B (fun _ => False) (itS x) (dedP ys)
  all : ∀ k, csOf hs k ≠ [] → left (.string k) = false → ∃ x ∈ its, x.1 = k
  nd : (its.map (·.1)).Nodup
  bel : Below B w W
theorem ItmR.len {B b r n : Nat} {hs : List (List UInt8 × Ct)} {D : DV} {w : World} {left : Lit → Bool} {cnt : Nat} {out : Value} {its : List ItV} {W : World} (h : ItmR B b r n hs D w left cnt out its W) : its.length ≤ hs.length := by
  have := nodup_sub_len (l := its.map (·.1)) (l' := hs.map (·.1)) h.nd fun k hk => by
    obtain ⟨x, hx, rfl⟩ := List.mem_map.1 hk
    obtain ⟨c, hc⟩ := List.exists_mem_of_ne_nil _ (h.done x hx).1
    exact List.mem_map.2 ⟨(x.1, c), (mem_csOf hs x.1 c).1 hc, rfl⟩
  simpa using this
theorem ItmR.step {B b r n : Nat} {hs : List (List UInt8 × Ct)} {D : DV} {w : World} {left : Lit → Bool} {cnt : Nat} {out : Value} {its : List ItV} {W : World} (G : ItmG B b r hs D) (h : ItmR B b r n hs D w left cnt out its W) (hn : hs.length ≤ 40000000)
    {s : List UInt8} {v : Value} (hsl : left (.string s) = true) (hcs : csOf hs s ≠ []) (hv : AtK D s v) {W1 W3 : World} {cnt1 : Nat} (hrg1 : W1.ranges Tryz.prog 9 rV b r n D (fun z => left z && !z.sameKey (.string s)) cnt1) (g1 : W.grownBy W1 (some r)) (g3 : W1.grownBy W3 v.ownBlock)
    {A : Option Addr} {m c : Nat} (hvb : (Value.slice A m c).ownBlock = v.ownBlock) {ys : List Ct} (hp : ys.Perm (csOf hs s)) (hpw : ys.Pairwise fun a b => ¬ CLt b a) (ho : kCt.own 69 W3 B (fun _ => False) (.slice A m c) (dedP ys)) :
    ∃ A' c' W4, (Builtin.append_ #[33, 33] 33 #[out, .slice (some ⟨W3.heap.size, 0, none⟩) 1 1]).run Tryz.prog (W3.alloc (.cells #[.string ⟨s.toArray⟩, .slice A m c] 99)) = .ok (.slice A' (its.length + 1) c') W4 ∧
      ItmR B b r n hs D w (fun z => left z && !z.sameKey (.string s)) cnt1 (.slice A' (its.length + 1) c') (its ++ [(s, A, m, c)]) W4 := by
  have hlt := G.lt s v hcs hv
  have hol := Lay.own_lt h.own
  have hrW := h.rg.lt
  have hlen := h.len
  have s13 : W.heap.size ≤ W3.heap.size := Nat.le_trans g1.size g3.size
  have k13 : ∀ j, j < W.heap.size → j ≠ r → v.ownBlock ≠ some j → W3.heap[j]? = W.heap[j]? := fun j hj h1 h2 =>
    (g3.block j (Nat.lt_of_lt_of_le hj g1.size) (fun e => h2 e.symm)).trans (g1.block j hj (fun e => h1 (Option.some.inj e)))
  have ho3 : kIv.own 99 W3 (r + 1) (fun _ => False) out its := Lay.own_keep h.own s13 fun j hj hjl => by
    rcases hj with hj | hj
    · exact hj.elim
    · have := hol j hj
      exact k13 j hjl (by omega) fun e => by have := hlt j e; omega
  obtain ⟨A', c', W4, run, o4, b4, k4, s4, n4⟩ := own_app1 (k := kIv) (Pr := Tryz.prog) (t := 33) (e := 99) Tryz.underlying33 info99 rfl (by decide) (by omega) ho3 (by omega) (cs := #[.string ⟨s.toArray⟩, .slice A m c]) (T := 99) (x := (s, A, m, c)) rfl 1 (by omega)
  have k14 : ∀ j, j < W.heap.size → j ≠ r → v.ownBlock ≠ some j → out.ownBlock ≠ some j → W4.heap[j]? = W.heap[j]? := fun j hj h1 h2 h3 => (k4 j (Nat.lt_of_lt_of_le hj s13) h3).trans (k13 j hj h1 h2)
  have g4 : W3.grownBy W4 out.ownBlock := ⟨(b4 0 (by omega)).os, (b4 0 (by omega)).tape, (b4 0 (by omega)).output, s4, fun i hi hne => k4 i hi fun e => hne e.symm⟩
  have hbv : some b ≠ v.ownBlock := fun e => by have := hlt b e.symm; have := G.bB; omega
  have hrv : some r ≠ v.ownBlock := fun e => by have := hlt r e.symm; omega
  have hbo : some b ≠ out.ownBlock := fun e => by have := hol b e.symm; have := G.bB; have := G.Br; omega
  have hro : some r ≠ out.ownBlock := fun e => by have := hol r e.symm; omega
  have keep : ∀ (u : Value) (cs : List Ct) (k' : List UInt8) (v' : Value), kCt.own 69 W B (fun _ => False) u cs → u.ownBlock = v'.ownBlock → csOf hs k' ≠ [] → AtK D k' v' → s ≠ k' → kCt.own 69 W4 B (fun _ => False) u cs := fun u cs k' v' hu e hc ha hne =>
    Lay.own_keep hu (Nat.le_trans s13 s4) fun j hj hjl => by
      rcases hj with hj | hj
      · exact hj.elim
      · rw [e] at hj
        have h5 := G.lt k' v' hc ha j hj
        exact k14 j hjl (by omega) (fun e9 => G.ap s k' v v' hne hcs hc hv ha j e9 hj) fun e9 => by have := hol j e9; omega
  refine ⟨A', c', W4, run, ⟨(hrg1.kept g3 hbv hrv).kept g4 hbo hro, fun k' v' hc hl ha => ?_, o4, fun x hx => ?_, fun k' hc hl => ?_, ?_, ?_⟩⟩
  · simp only [same_str, Bool.and_eq_true, Bool.not_eq_true', decide_eq_false_iff_not] at hl
    exact keep v' _ k' v' (h.todo k' v' hc hl.1 ha) rfl hc ha (fun e => hl.2 e.symm)
  · rcases List.mem_append.1 hx with hx | hx
    · obtain ⟨d1, d2, d3, ⟨v', d4⟩, ys', d5, d6, d7⟩ := h.done x hx
      refine ⟨d1, by simp [d2], d3, ⟨v', d4⟩, ys', d5, d6, keep _ _ x.1 v' d7 (d3 v' d4).symm d1 d4 fun e => ?_⟩
      rw [← e, hsl] at d2; cases d2
    · simp only [List.mem_singleton] at hx
      subst hx
      refine ⟨hcs, by simp [same_str], fun v' hv' => ?_, ⟨v, hv⟩, ys, hp, hpw, ?_⟩
      · rw [AtK.one hv' hv]; exact hvb.symm
      · refine Lay.own_keep (v := .slice A m c) ho s4 fun j hj hjl => ?_
        rcases hj with hj | hj
        · exact hj.elim
        · rw [hvb] at hj
          have := hlt j hj
          exact k4 j hjl fun e9 => by have := hol j e9; omega
  · simp only [same_str, Bool.and_eq_false_iff, Bool.not_eq_false', decide_eq_true_eq] at hl
    by_cases e : k' = s
    · exact ⟨(s, A, m, c), by simp, e.symm⟩
    · obtain ⟨x, hx, hxk⟩ := h.all k' hc (hl.resolve_right e)
      exact ⟨x, List.mem_append_left _ hx, hxk⟩
  · rw [List.map_append, List.nodup_append]
    refine ⟨h.nd, by simp, fun a ha b' hb' e => ?_⟩
    obtain ⟨x, hx, rfl⟩ := List.mem_map.1 ha
    simp only [List.map_cons, List.map_nil, List.mem_singleton] at hb'
    have := (h.done x hx).2.1
    rw [e, hb', hsl] at this
    cases this
  · have b14 := b4 B (by have := G.Br; omega)
    refine ⟨b14.os.trans (g3.os.trans (g1.os.trans h.bel.os)), b14.tape.trans (g3.tape.trans (g1.tape.trans h.bel.tape)), b14.output.trans (g3.output.trans (g1.output.trans h.bel.output)), Nat.le_trans h.bel.size (Nat.le_trans s13 s4), fun j hj => ?_⟩
    have hjW : j < W.heap.size := by have := G.Br; omega
    exact (k14 j hjW (by have := G.Br; omega) (fun e => by have := hlt j e; omega) (fun e => by have := hol j e; have := G.Br; omega)).trans (h.bel.block j hj)
theorem itm_fin {B b r n : Nat} {hs : List (List UInt8 × Ct)} {D : DV} {w : World} {left : Lit → Bool} {cnt : Nat} {out : Value} {its its' : List ItV} {W W5 : World} (G : ItmG B b r hs D) (h : ItmR B b r n hs D w left cnt out its W) (hk : ∀ x ∈ hs, x.1.length ≤ 1000) (hl : ∀ kl, left kl = false)
    (hp : its'.Perm its) (hpw : its'.Pairwise fun a b => sLt b.1 a.1 = false) (ho : kIv.own 99 W5 (r + 1) (fun _ => False) out its') (g5 : W.grownBy W5 out.ownBlock) : ∃ A m c, out = .slice A m c ∧ TbH W5 A m c hs ∧ Below B w W5 := by
  have hol := Lay.own_lt h.own
  have hd : ∀ x ∈ its', csOf hs x.1 ≠ [] ∧ ∃ ys : List Ct, ys.Perm (csOf hs x.1) ∧ (ys.Pairwise fun a b => ¬ CLt b a) ∧ kCt.own 69 W5 B (fun _ => False) (itS x) (dedP ys) ∧ ∀ j, (itS x).ownBlock = some j → j < r := fun x hx => by
    obtain ⟨d1, d2, d3, ⟨v', d4⟩, ys, d5, d6, d7⟩ := h.done x (hp.mem_iff.1 hx)
    have hj : ∀ j, (itS x).ownBlock = some j → j < r := fun j hj => (G.lt x.1 v' d1 d4 j (by rw [d3 v' d4]; exact hj)).2
    refine ⟨d1, ys, d5, d6, Lay.own_keep d7 g5.size fun j hj' hjl => ?_, hj⟩
    rcases hj' with hj' | hj'
    · exact hj'.elim
    · exact g5.block j hjl fun e => by have := hol j e.symm; have := hj j hj'; omega
  have hex : ∀ x : ItV, ∃ ys : List Ct, x ∈ its' → ys.Perm (csOf hs x.1) ∧ (ys.Pairwise fun a b => ¬ CLt b a) ∧ kCt.own 69 W5 B (fun _ => False) (itS x) (dedP ys) := fun x => by
    by_cases hx : x ∈ its'
    · obtain ⟨_, ys, a1, a2, a3, _⟩ := hd x hx
      exact ⟨ys, fun _ => ⟨a1, a2, a3⟩⟩
    · exact ⟨[], fun h9 => absurd h9 hx⟩
  obtain ⟨f, hf⟩ : ∃ f : ItV → List Ct, ∀ x ∈ its', (f x).Perm (csOf hs x.1) ∧ ((f x).Pairwise fun a b => ¬ CLt b a) ∧ kCt.own 69 W5 B (fun _ => False) (itS x) (dedP (f x)) := ⟨fun x => (hex x).choose, fun x hx => (hex x).choose_spec hx⟩
  have hT : its'.map (fun x => (x.1, dedP (f x))) = tabP hs := by
    refine items_tab (fun y hy => ?_) (fun k hc => ?_) ?_
    · obtain ⟨x, hx, rfl⟩ := List.mem_map.1 hy
      exact ⟨(hd x hx).1, f x, (hf x hx).1, (hf x hx).2.1, rfl⟩
    · obtain ⟨x, hx, rfl⟩ := h.all k hc (hl _)
      exact ⟨_, List.mem_map.2 ⟨x, hp.mem_iff.2 hx, rfl⟩⟩
    · rw [List.pairwise_map]
      have hnd : (its'.map (·.1)).Nodup := (hp.map (·.1)).nodup_iff.2 h.nd
      rw [List.nodup_iff_pairwise_ne, List.pairwise_map] at hnd
      exact (hpw.and hnd).imp fun {a b} ⟨h1, h2⟩ => (sLt_tri h2).resolve_right (by rw [h1]; simp)
  have hown : kIt.own 99 W5 (r + 1) (fun j => j < r) out (its'.map fun x => (x.1, dedP (f x))) := by
    obtain ⟨ds, h1, h2, h3⟩ := ho
    refine ⟨ds, h1, by rw [List.length_map]; exact h2, fun i d y hd' hy => ?_⟩
    rw [List.getElem?_map] at hy
    obtain ⟨x, hx, rfl⟩ := Option.map_eq_some_iff.1 hy
    have e : d.1 = itCs x := h3 i d x hd' hx
    have hxm := List.mem_of_getElem? hx
    obtain ⟨_, ys, _, _, _, hj⟩ := hd x hxm
    obtain ⟨k, A, m, c⟩ := x
    have ho9 := (hf _ hxm).2.2
    obtain ⟨A9, c9, e9, hc9, hr9⟩ := Lay.own_row ho9
    obtain ⟨e1, e2, e3⟩ := Value.slice.inj e9
    simp only at e1 e2 e3
    rw [← e1, ← e2] at hr9
    rw [← e2, ← e3] at hc9
    refine kIt_rep.2 ⟨_, _, _, e, hc9, Lay.row_mono hr9 fun j hj' _ => ?_⟩
    rcases hj' with hj' | hj'
    · exact hj'.elim
    · have := hj j hj'
      exact ⟨this, fun e => by have := hol j e; omega⟩
  obtain ⟨A, c, e, hc, hr⟩ := Lay.own_row hown
  rw [hT] at hr
  refine ⟨A, _, c, e, ⟨Lay.row_mono (by rw [← hT] at hr ⊢; exact hr) fun _ _ _ => trivial, hc, reg_tab hs, tab_len hs, fun x hx => ?_⟩, ?_⟩
  · obtain ⟨c, hc⟩ := tab_key hx
    exact hk _ hc
  · refine ⟨g5.os.trans h.bel.os, g5.tape.trans h.bel.tape, g5.output.trans h.bel.output, Nat.le_trans h.bel.size g5.size, fun j hj => (g5.block j (by have := h.rg.lt; have := G.Br; omega) fun e => by have := hol j e.symm; have := G.Br; omega).trans (h.bel.block j hj)⟩
theorem GMap.itmG {B b n : Nat} {hs : List (List UInt8 × Ct)} {D : DV} {W : World} (h : GMap B b n hs D W) (hB : B ≤ W.heap.size) : ItmG B b W.heap.size hs D :=
  ⟨h.ap, fun k v hc ha j hj => by
    obtain ⟨v', h1, h2⟩ := h.row k hc
    rw [AtK.one ha h1] at hj
    exact Lay.own_lt h2 j hj, h.lt, hB⟩
theorem GMap.itmR {B b n : Nat} {hs : List (List UInt8 × Ct)} {D : DV} {w W : World} (h : GMap B b n hs D w) (hB : B ≤ w.heap.size) {cnt : Nat} (hrg : W.ranges Tryz.prog 9 rV b w.heap.size n D (Maps.has D) cnt) (hg : w.grownBy W none) : ItmR B b w.heap.size n hs D w (Maps.has D) cnt (.slice none 0 0) [] W :=
  ⟨hrg, fun k v hc _ ha => by
    obtain ⟨v', h1, h2⟩ := h.row k hc
    rw [AtK.one ha h1]
    exact Lay.own_keep h2 hg.size fun j _ hjl => hg.block j hjl (by simp), Lay.own_nil _ _ _ _ _, fun x hx => (by cases hx), fun k hc hl => (by rw [(h.has k).2 hc] at hl; cases hl), .nil, ⟨hg.os, hg.tape, hg.output, hg.size, fun j hj => hg.block j (by omega) (by simp)⟩⟩
theorem sort_iall (w : World) (B : Nat) (v : Value) (xs : List ItV) (h : kIv.own 99 w B (fun _ => False) v xs) (hl : xs.length ≤ 100000000) :
    Calls Tryz.prog 114 #[v, .func (.func 115) #[] #[]] w fun e w' => e = .returned (.tuple #[]) ∧ ∃ ys, ys.Perm xs ∧ (ys.Pairwise fun a b => sLt b.1 a.1 = false) ∧ kIv.own 99 w' B (fun _ => False) v ys ∧ w.grownBy w' v.ownBlock := by
  by_cases hne : xs = []
  · subst hne
    obtain ⟨A, c, rfl, _, _⟩ := Lay.own_row h
    refine (sort_none A c _ w).mono ?_
    rintro e w' ⟨rfl, rfl⟩
    exact ⟨rfl, [], List.Perm.refl _, .nil, h, ⟨rfl, rfl, rfl, Nat.le_refl _, fun _ _ _ => rfl⟩⟩
  · exact sort_iown w B v xs h hne hl
theorem csOf_len (hs : List (List UInt8 × Ct)) (k : List UInt8) : (csOf hs k).length ≤ hs.length := List.length_filterMap_le _ _
set_option maxHeartbeats 4000000 in
set_option maxRecDepth 100000 in
theorem items_any (w : World) (B b n : Nat) (hs : List (List UInt8 × Ct)) (D : DV) (h : GMap B b n hs D w) (hB : B ≤ w.heap.size) (hn : hs.length ≤ 40000000) (hk : ∀ x ∈ hs, x.1.length ≤ 1000) :
    Calls Tryz.prog 57 #[.map (some b)] w fun e w' => ∃ A m c, e = .returned (.slice A m c) ∧ TbH w' A m c hs ∧ Below B w w' := by
  have HG := Lib.hid (h.itmG hB)
  have HH := Lib.hid h
  have hown := h.own
  clear h
  obtain ⟨r, hr⟩ : ∃ r, w.heap.size = r := ⟨_, rfl⟩
  go_enter Tryz.func57, Tryz.ntmps57
  go_wp2_with (first
    | (at_range; refine wpList_range_own _ rfl _ 105 rfl 9 38 lawS Tryz.underlying105 rV b n _ rfl hown ?_; intro w0 hrg0 hg0 hs0)
    | go_in)
  go_frame
  have HST := Lib.hid (HH.out.itmR hB hrg0 hg0)
  rw [hr] at HG HST hrg0 hs0 ⊢
  clear hrg0 hg0 hs0 hown
  go_loopw [3] (fun s3 wr => ∃ (left : Lit → Bool) (cnt : Nat) (its : List ItV) (out : Value), out = s3 ∧ ItmR B b r n hs D w left cnt out its wr) (fun _ wr => wr.rangeLeft b r)
  case atStart => exact ⟨_, _, [], _, rfl, HST.out⟩
  case round =>
    obtain ⟨left, cnt, its, out, hout, hI⟩ := hrel
    subst hout
    have HI := Lib.hid hI
    have hrg := hI.rg
    clear hI
    go_wp2_with (first
      | (at_next; refine wpList_next_ranges _ rfl _ rfl 9 lawS rV id id (fun key _ _ => ⟨key, rfl⟩) (fun v _ _ => ⟨v, rfl⟩) b r n _ _ _ rfl hrg ?_ ?_)
      | go_in)
    · intro hc0 hl0
      have HS := Lib.hid (sort_iall wr (r + 1) out its HI.out.own (by have := HI.out.len; omega))
      have HL0 := Lib.hid hl0
      clear hl0 hrg
      go_wp2_with (first
        | (go_at_call 114; refine (HS.out).mono ?_; rintro e w5 ⟨rfl, its', hp, hpw, ho5, hg5⟩; have HE := Lib.hid (itm_fin HG.out HI.out hk HL0.out hp hpw ho5 hg5); clear hp hpw ho5 hg5)
        | go_in)
      go_ret
      obtain ⟨A, m, c, e, h1, h2⟩ := HE.out
      exact ⟨A, m, c, by rw [← e]; rfl, h1, h2⟩
    · intro x c kl yd yp w1 cnt1 hkey hlx hv hat hrg1 hlt hg1 hs1 hen
      obtain ⟨s, rfl, rfl, hsl⟩ := key_inv hkey
      have ha : AtK D s c := fun z => by
        rw [hat z]
        unfold rV at hv
        simp only [Option.some.injEq, Prod.mk.injEq] at hv
        exact hv.1.symm
      have hcs : csOf hs s ≠ [] := (HH.out.has s).1 (has_true_of_atKey hat)
      have hlen := csOf_len hs s
      have ho1 : kCt.own 69 w1 B (fun _ => False) c (csOf hs s) := Lay.own_keep (HI.out.todo s c hcs hlx ha) (by omega) fun j hj hjl => by
        rcases hj with hj | hj
        · exact hj.elim
        · have := HG.out.lt s c hcs ha j hj
          exact hg1.block j hjl (fun e => by have := Option.some.inj e; omega)
      have HSO := Lib.hid (sort_own w1 B c (csOf hs s) ho1 hcs (by omega))
      have HSTEP := Lib.hid (fun (W3 : World) (A : Option Addr) (m cc : Nat) (ys : List Ct) g3 hvb hp hpw ho => ItmR.step (W3 := W3) (A := A) (m := m) (c := cc) (ys := ys) HG.out HI.out hn hlx hcs ha hrg1 hg1 g3 hvb hp hpw ho)
      have HLT := Lib.hid hlt
      have HYL := Lib.hid (show ∀ ys : List Ct, ys.Perm (csOf hs s) → ys ≠ [] ∧ ys.length ≤ 100000000 from fun ys hp => ⟨fun e => hcs (by rw [e] at hp; exact List.Perm.nil_eq hp ▸ rfl), by rw [hp.length_eq]; omega⟩)
      clear ho1 hkey hv hat ha hcs hlen hlx hrg hrg1 hlt hg1 hs1

      go_wp2_with (first
        | (go_at_call 111; refine (HSO.out).mono ?_; rintro e w2 ⟨rfl, ys, hp, hpw, ho2, hg2⟩; have HC := Lib.hid (compact_own w2 B c ys ho2 (HYL.out ys hp).1 (HYL.out ys hp).2); have HP := Lib.hid hp; have HPW := Lib.hid hpw; have HG2 := Lib.hid hg2; clear hp hpw ho2 hg2)
        | (go_at_call 113; refine (HC.out).mono ?_; rintro e w3 ⟨v', rfl, hvb, ho3, hg3⟩; obtain ⟨A9, c9, rfl, _, _⟩ := Lay.own_row ho3; obtain ⟨A', c', w4, hrun, hst⟩ := HSTEP.out w3 A9 _ c9 ys (HG2.out.andThen hg3 fun j hj => .inr hj) hvb HP.out HPW.out ho3; have RUN := Lib.hid hrun; have HST4 := Lib.hid hst; clear hvb ho3 hg3 hrun hst)
        | (at_builtin; refine wpList_append_run (s := .tmp 15) (x := .tmp 20) RUN.out rfl rfl rfl rfl rfl ?_)
        | go_in)
      go_roundw
      case rel => exact ⟨_, cnt1, _, _, rfl, HST4.out⟩
      case measure => rw [HST4.out.rg.left_eq, HI.out.rg.left_eq]; exact HLT.out
end Go.Proofs.YtdbnddmncbjobaaGreatDoor

/- A row of the map grows: look-up, append, store. -/
namespace Go.Proofs.YtdbnddmncbjobaaGreatDoor
open Go Go.RowKit Go.Maps
attribute [local go_sem] Oper.semAt_some

theorem step_mapU {P : Program} {w : World} {ys : Nat → Option Bool} {o : Oper} {a : Act} {K : Act → World → Prop} {Q : Exit → Act → World → Prop} {E : Prop} {t : TypeId} {m k x : Operand} {vm vk vx : Value} {w' : World}
    (hr : (Instr.mapUpdate t vm vk vx).run P w = .ok () w') (hgd : o.guard = none) (ho : o.op = .mapUpdate t m k x) (hm : a.eval m = vm) (hk : a.eval k = vk) (hx : a.eval x = vx)
    (h : K (a.put o.dst undef) w') : if Region.wanted o ys = true then Oper.wp P o a w K Q else E := by
  have hw : Region.wanted o ys = true := by simp [Region.wanted, hgd]
  rw [if_pos hw]
  unfold Oper.wp
  simp [execOp, ho, hm, hk, hx, hr, Result.andThen]
  exact h
theorem GMap.raise {B B' b n : Nat} {D : DV} {W : World} (h : GMap B b n [] D W) (hB : b < B') : GMap B' b n [] D W :=
  ⟨h.own, hB, h.key, h.has, fun _ hk => absurd rfl hk, h.ap⟩
theorem GMap.look2 {B b n : Nat} {hs : List (List UInt8 × Ct)} {D : DV} {W : World} (h : GMap B b n hs D W) {k : List UInt8} (hk : k.length ≤ maxLen) :
    ∃ v, (∀ X : World, X.ownsMap Tryz.prog 9 rV b n D → (Instr.lookup 105 (.map (some b)) (.string ⟨k.toArray⟩) false).run Tryz.prog X = .ok v X) ∧ kCt.own 69 W B (fun _ => False) v (csOf hs k) ∧
      ∀ k' v', k ≠ k' → csOf hs k' ≠ [] → AtK D k' v' → ∀ j, v.ownBlock = some j → v'.ownBlock ≠ some j := by
  obtain ⟨v, hrun, ho, hap⟩ := h.look hk
  refine ⟨v, fun X hX => ?_, ho, hap⟩
  obtain ⟨v1, p1, r1, e1⟩ := h.own.lookup (t := 105) (e := 38) lawS Tryz.underlying105 (z := .slice none 0 0) (Tryz.zeroValue38 W) (zd := .held (.slice none 0 0)) (zp := []) rfl (keyS hk)
  obtain ⟨v2, p2, r2, e2⟩ := hX.lookup (t := 105) (e := 38) lawS Tryz.underlying105 (z := .slice none 0 0) (Tryz.zeroValue38 X) (zd := .held (.slice none 0 0)) (zp := []) rfl (keyS hk)
  rw [hrun] at r1
  obtain rfl : v = v1 := (Result.ok.inj r1).1
  have : v2 = v := by
    unfold rV at e1 e2
    simp only [Option.some.injEq, Prod.mk.injEq] at e1 e2
    have := e2.1.trans e1.1.symm
    injection this
  subst this
  exact r2
theorem own_lenF {W : World} {B : Nat} {v : Value} {xs : List Ct} (h : kCt.own 69 W B (fun _ => False) v xs) (X : World) (hX : W.grownBy X none) : kCt.own 69 X B (fun _ => False) v xs := Lay.own_keep h hX.size fun j _ hjl => hX.block j hjl (by simp)
/-- What an append and a store of places at a key give. -/
structure Pushed (B b n : Nat) (hs : List (List UInt8 × Ct)) (W X : World) (k : List UInt8) (ys : List Ct) (v : Value) (D' : DV) (X2 : World) : Prop where
  gm : GMap B b (n + 1) (hs ++ ys.map fun c => (k, c)) D' X2
  size : X.heap.size ≤ X2.heap.size
  os : X2.os = X.os
  tape : X2.tape = X.tape
  output : X2.output = X.output
  block : ∀ j, j < X.heap.size → (j < B ∨ W.heap.size ≤ j) → j ≠ b → X2.heap[j]? = X.heap[j]?
theorem GMap.push {B b n : Nat} {hs : List (List UInt8 × Ct)} {D : DV} {W : World} (h : GMap B b n hs D W) (hB : B ≤ W.heap.size) {k : List UInt8} (hk : k.length ≤ maxLen) (hn : n < 40000000) (hl : hs.length ≤ 40000000) :
    ∃ v, (∀ X : World, X.ownsMap Tryz.prog 9 rV b n D → (Instr.lookup 105 (.map (some b)) (.string ⟨k.toArray⟩) false).run Tryz.prog X = .ok v X) ∧
      ∀ (X : World) (_ : W.grownBy X none) (P : Nat → Prop) (A : Option Addr) (m c : Nat) (ys : List Ct), kCt.row X P A m ys → ys ≠ [] → ys.length ≤ 40000000 →
        ∃ A' m' c' X1, (Builtin.append_ #[38, 38] 38 #[v, .slice A m c]).run Tryz.prog X = .ok (.slice A' m' c') X1 ∧ X1.ownsMap Tryz.prog 9 rV b n D ∧ X.heap.size ≤ X1.heap.size ∧ (∀ j, j < X.heap.size → (j < B ∨ W.heap.size ≤ j) → j ≠ b → X1.heap[j]? = X.heap[j]?) ∧
          ∃ D' X2, (Instr.mapUpdate 105 (.map (some b)) (.string ⟨k.toArray⟩) (.slice A' m' c')).run Tryz.prog X1 = .ok () X2 ∧ Pushed B b n hs W X k ys v D' X2 := by
  obtain ⟨v, hlook, ho, hap⟩ := h.look2 hk
  refine ⟨v, hlook, fun X hX P A m c ys hr hy hyl => ?_⟩
  have hvl := Lay.own_lt ho
  have hoX := own_lenF ho X hX
  have hlen := csOf_len hs k
  have hrl := Lay.row_len hr
  obtain ⟨ds, e1, e2, e3, e4, e5⟩ := hr
  obtain ⟨A', c', X1, hrun, ho1, hb1, hk1, hs1, hn1⟩ := Lay.own_append (k := kCt) (P := Tryz.prog) (t := 38) (e := 69) Tryz.underlying38 info69 rfl (by decide) (by omega) hoX e3 e2 (fun i d x hd hx => kCt_rep.2 (kCt_rep.1 (e5 i d x hd hx))) c (by omega) (Nat.le_trans hB hX.size)
  have hbW := h.own.lt
  have hmap1 : X1.ownsMap Tryz.prog 9 rV b n D := by
    obtain ⟨es, clock, hb, F, hsz, hD⟩ := h.own
    exact ⟨es, clock, (hk1 b (Nat.lt_of_lt_of_le hbW hX.size) (fun e => by have := (hvl b e).1; have := h.lt; omega)).trans ((hX.block b hbW (by simp)).trans hb), F, hsz, hD⟩
  have kk : ∀ j, j < X.heap.size → (j < B ∨ W.heap.size ≤ j) → X1.heap[j]? = X.heap[j]? := fun j hj hj2 => hk1 j hj fun e => by
    have := hvl j e; omega
  refine ⟨A', _, c', X1, hrun, hmap1, hs1, fun j hj hj2 _ => kk j hj hj2, ?_⟩
  obtain ⟨X2, hrun2, hg2, hgr⟩ := (h.keep hX).store (W1 := X1) hk (by unfold maxLen; omega) (v := v) (v' := .slice A' ((csOf hs k).length + m) c') (ys := ys) hy hap (fun j hj => (hvl j hj).1) hs1 (fun j hj hne => hk1 j hj hne) ho1 (fun j hj => (hn1 j hj).imp id id)
  refine ⟨_, X2, hrun2, hg2, Nat.le_trans hs1 hgr.size, hgr.os.trans (hb1 0 (Nat.zero_le _)).os, hgr.tape.trans (hb1 0 (Nat.zero_le _)).tape, hgr.output.trans (hb1 0 (Nat.zero_le _)).output, fun j hj hj2 hjb => ?_⟩
  exact (hgr.block j (Nat.lt_of_lt_of_le hj hs1) fun e => hjb (Option.some.inj e)).trans (kk j hj hj2)
/-- No row of the map lies in a block of K. -/
def GAv (K : Nat → Prop) (D : DV) (hs : List (List UInt8 × Ct)) : Prop := ∀ k v, csOf hs k ≠ [] → AtK D k v → ∀ j, v.ownBlock = some j → ¬ K j
structure Pushd (B b n : Nat) (hs : List (List UInt8 × Ct)) (D : DV) (X : World) (k : List UInt8) (ys : List Ct) (v : Value) (D' : DV) (X2 : World) : Prop where
  gm : GMap B b (n + 1) (hs ++ ys.map fun c => (k, c)) D' X2
  size : X.heap.size ≤ X2.heap.size
  os : X2.os = X.os
  tape : X2.tape = X.tape
  output : X2.output = X.output
  block : ∀ j, j < X.heap.size → v.ownBlock ≠ some j → j ≠ b → X2.heap[j]? = X.heap[j]?
  av : ∀ K : Nat → Prop, GAv K D hs → (∀ j, K j → j < X.heap.size) → GAv K D' (hs ++ ys.map fun c => (k, c))
theorem GMap.look3 {B b n : Nat} {hs : List (List UInt8 × Ct)} {D : DV} {W : World} (h : GMap B b n hs D W) {k : List UInt8} (hk : k.length ≤ maxLen) :
    ∃ v, (∀ X : World, X.ownsMap Tryz.prog 9 rV b n D → (Instr.lookup 105 (.map (some b)) (.string ⟨k.toArray⟩) false).run Tryz.prog X = .ok v X) ∧ kCt.own 69 W B (fun _ => False) v (csOf hs k) ∧
      (∀ k' v', k ≠ k' → csOf hs k' ≠ [] → AtK D k' v' → ∀ j, v.ownBlock = some j → v'.ownBlock ≠ some j) ∧ (v = .slice none 0 0 ∨ (csOf hs k ≠ [] ∧ AtK D k v)) := by
  obtain ⟨v, hlook, ho, hap⟩ := h.look2 hk
  refine ⟨v, hlook, ho, hap, ?_⟩
  obtain ⟨v1, p1, r1, e1⟩ := h.own.lookup (t := 105) (e := 38) lawS Tryz.underlying105 (z := .slice none 0 0) (Tryz.zeroValue38 W) (zd := .held (.slice none 0 0)) (zp := []) rfl (keyS hk)
  obtain rfl : v = v1 := (Result.ok.inj ((hlook W h.own).symm.trans r1)).1
  have e2 : D.atKey (.string k) (.held (.slice none 0 0)) = .held v := by
    unfold rV at e1; simp only [Option.some.injEq, Prod.mk.injEq] at e1; exact e1.1.symm
  by_cases hc : csOf hs k = []
  · left
    have hf : Maps.has D (.string k) = false := by
      cases h9 : Maps.has D (.string k)
      · rfl
      · exact absurd hc ((h.has k).1 h9)
    rw [atKey_of_not_has hf] at e2
    exact (DataW.held.inj e2).symm
  · right
    obtain ⟨v2, h2, h3⟩ := h.row k hc
    rw [h2] at e2
    obtain rfl : v2 = v := DataW.held.inj e2
    exact ⟨hc, h2⟩
theorem GMap.push2 {B b n : Nat} {hs : List (List UInt8 × Ct)} {D : DV} {W : World} (h : GMap B b n hs D W) (hB : B ≤ W.heap.size) {k : List UInt8} (hk : k.length ≤ maxLen) (hn : n < 40000000) (hl : hs.length ≤ 40000000) :
    ∃ v, (∀ X : World, X.ownsMap Tryz.prog 9 rV b n D → (Instr.lookup 105 (.map (some b)) (.string ⟨k.toArray⟩) false).run Tryz.prog X = .ok v X) ∧ (∀ K : Nat → Prop, GAv K D hs → ∀ j, v.ownBlock = some j → ¬ K j) ∧ (∀ j, v.ownBlock = some j → j < W.heap.size) ∧
      ∀ (X : World) (_ : W.grownBy X none) (P : Nat → Prop) (A : Option Addr) (m c : Nat) (ys : List Ct), kCt.row X P A m ys → ys ≠ [] → ys.length ≤ 10000000 →
        ∃ A' m' c' X1, (Builtin.append_ #[38, 38] 38 #[v, .slice A m c]).run Tryz.prog X = .ok (.slice A' m' c') X1 ∧ X1.ownsMap Tryz.prog 9 rV b n D ∧ (∀ j, j < X.heap.size → v.ownBlock ≠ some j → X1.heap[j]? = X.heap[j]?) ∧
          ∃ D' X2, (Instr.mapUpdate 105 (.map (some b)) (.string ⟨k.toArray⟩) (.slice A' m' c')).run Tryz.prog X1 = .ok () X2 ∧ Pushd B b n hs D X k ys v D' X2 := by
  obtain ⟨v, hlook, ho, hap, hvc⟩ := h.look3 hk
  have hvl := Lay.own_lt ho
  have hvK : ∀ K : Nat → Prop, GAv K D hs → ∀ j, v.ownBlock = some j → ¬ K j := fun K hK j hj => by
    rcases hvc with rfl | ⟨hc, ha⟩
    · simp [Value.ownBlock] at hj
    · exact hK k v hc ha j hj
  refine ⟨v, hlook, hvK, fun j hj => (hvl j hj).2, fun X hX P A m c ys hr hy hyl => ?_⟩
  have hoX := own_lenF ho X hX
  have hlen := csOf_len hs k
  have hrl := Lay.row_len hr
  obtain ⟨ds, e1, e2, e3, e4, e5⟩ := hr
  obtain ⟨A', c', X1, hrun, ho1, hb1, hk1, hs1, hn1⟩ := Lay.own_append (k := kCt) (P := Tryz.prog) (t := 38) (e := 69) Tryz.underlying38 info69 rfl (by decide) (by omega) hoX e3 e2 (fun i d x hd hx => kCt_rep.2 (kCt_rep.1 (e5 i d x hd hx))) c (by omega) (Nat.le_trans hB hX.size)
  have hbW := h.own.lt
  have hmap1 : X1.ownsMap Tryz.prog 9 rV b n D := by
    obtain ⟨es, clock, hb, F, hsz, hD⟩ := h.own
    exact ⟨es, clock, (hk1 b (Nat.lt_of_lt_of_le hbW hX.size) (fun e => by have := (hvl b e).1; have := h.lt; omega)).trans ((hX.block b hbW (by simp)).trans hb), F, hsz, hD⟩
  refine ⟨A', _, c', X1, hrun, hmap1, hk1, ?_⟩
  obtain ⟨X2, hrun2, hg2, hgr⟩ := (h.keep hX).store (W1 := X1) hk (by unfold maxLen; omega) (v := v) (v' := .slice A' ((csOf hs k).length + m) c') (ys := ys) hy hap (fun j hj => (hvl j hj).1) hs1 (fun j hj hne => hk1 j hj hne) ho1 (fun j hj => (hn1 j hj).imp id id)
  refine ⟨_, X2, hrun2, hg2, Nat.le_trans hs1 hgr.size, hgr.os.trans (hb1 0 (Nat.zero_le _)).os, hgr.tape.trans (hb1 0 (Nat.zero_le _)).tape, hgr.output.trans (hb1 0 (Nat.zero_le _)).output, fun j hj hj2 hjb => ?_, fun K hK hKl k' u hc ha j hj hKj => ?_⟩
  · exact (hgr.block j (Nat.lt_of_lt_of_le hj hs1) fun e => hjb (Option.some.inj e)).trans (hk1 j hj hj2)
  · have hm : IsMap D := by obtain ⟨es, _, _, _, _, rfl⟩ := h.own; exact ⟨_, rfl⟩
    by_cases e : k = k'
    · subst e
      have hput : AtK (D.put (.string k) (.held (.slice A' ((csOf hs k).length + m) c'))) k (.slice A' ((csOf hs k).length + m) c') := fun z => atKey_put_same hm (keyLit hk) _ _
      rw [AtK.one ha hput] at hj
      rcases hn1 j hj with h9 | h9
      · exact hvK K hK j h9 hKj
      · have := hKl j hKj; omega
    · have hne : Lit.string k' ≠ Lit.string k := fun e9 => e (Lit.string.inj e9).symm
      have ha' : AtK D k' u := fun z => by have := ha z; rwa [atKey_put_other hne] at this
      rw [csOf_append, csOf_other e, List.append_nil] at hc
      exact hK k' u hc ha' j hj hKj
/-- What is kept while the map grows: the blocks of K, which no row of the map lies in. -/
structure Kpt (b : Nat) (K : Nat → Prop) (hs : List (List UInt8 × Ct)) (D : DV) (W0 W : World) : Prop where
  os : W.os = W0.os
  tape : W.tape = W0.tape
  output : W.output = W0.output
  size : W0.heap.size ≤ W.heap.size
  av : GAv K D hs
  nb : ¬ K b
  lt : ∀ j, K j → j < W0.heap.size
  block : ∀ j, K j → W.heap[j]? = W0.heap[j]?
theorem Kpt.start {b : Nat} {K : Nat → Prop} {hs : List (List UInt8 × Ct)} {D : DV} {W : World} (av : GAv K D hs) (nb : ¬ K b) (lt : ∀ j, K j → j < W.heap.size) : Kpt b K hs D W W := ⟨rfl, rfl, rfl, Nat.le_refl _, av, nb, lt, fun _ _ => rfl⟩
theorem Kpt.ext {b : Nat} {K : Nat → Prop} {hs : List (List UInt8 × Ct)} {D : DV} {W0 W Y : World} (h : Kpt b K hs D W0 W) (os : Y.os = W.os) (tape : Y.tape = W.tape) (output : Y.output = W.output) (size : W.heap.size ≤ Y.heap.size) (blk : ∀ j, j < W.heap.size → Y.heap[j]? = W.heap[j]?) : Kpt b K hs D W0 Y :=
  ⟨os.trans h.os, tape.trans h.tape, output.trans h.output, Nat.le_trans h.size size, h.av, h.nb, h.lt, fun j hj => (blk j (Nat.lt_of_lt_of_le (h.lt j hj) h.size)).trans (h.block j hj)⟩
theorem Kpt.push {B b n : Nat} {K : Nat → Prop} {hs : List (List UInt8 × Ct)} {D D' : DV} {W0 X X2 : World} {k : List UInt8} {ys : List Ct} {v : Value} (h : Kpt b K hs D W0 X) (hv : ∀ K : Nat → Prop, GAv K D hs → ∀ j, v.ownBlock = some j → ¬ K j) (hp : Pushd B b n hs D X k ys v D' X2) : Kpt b K (hs ++ ys.map fun c => (k, c)) D' W0 X2 :=
  have hl : ∀ j, K j → j < X.heap.size := fun j hj => Nat.lt_of_lt_of_le (h.lt j hj) h.size
  ⟨hp.os.trans h.os, hp.tape.trans h.tape, hp.output.trans h.output, Nat.le_trans h.size hp.size, hp.av K h.av hl, h.nb, h.lt, fun j hj => (hp.block j (hl j hj) (fun e => hv K h.av j e hj) (fun e => h.nb (e ▸ hj))).trans (h.block j hj)⟩
/-- Blocks that have been made since are kept besides. -/
theorem Kpt.widen {B b n : Nat} {K : Nat → Prop} {hs : List (List UInt8 × Ct)} {D : DV} {W0 W Y : World} (h : Kpt b K hs D W0 W) (hg : GMap B b n hs D W) (size : W.heap.size ≤ Y.heap.size) : Kpt b (fun j => K j ∨ (W.heap.size ≤ j ∧ j < Y.heap.size)) hs D Y Y :=
  Kpt.start (fun k v hc ha j hj hKj => by
    rcases hKj with hKj | hKj
    · exact h.av k v hc ha j hj hKj
    · obtain ⟨v', h1, h2⟩ := hg.row k hc
      rw [AtK.one ha h1] at hj
      have := (Lay.own_lt h2 j hj).2
      omega) (fun hb => hb.elim h.nb fun hb => by have := hg.own.lt; omega) fun j hj => hj.elim (fun hj => Nat.lt_of_lt_of_le (h.lt j hj) (Nat.le_trans h.size size)) (·.2)
theorem Kpt.narrow {b : Nat} {K K' : Nat → Prop} {hs hs' : List (List UInt8 × Ct)} {D D' : DV} {W0 W Y Z : World} (h : Kpt b K hs D W0 W) (os : Y.os = W.os) (tape : Y.tape = W.tape) (output : Y.output = W.output) (size : W.heap.size ≤ Y.heap.size) (blk : ∀ j, j < W.heap.size → Y.heap[j]? = W.heap[j]?)
    (h' : Kpt b K' hs' D' Y Z) (hK : ∀ j, K j → K' j) : Kpt b K hs' D' W0 Z :=
  have h1 := h.ext os tape output size blk
  ⟨h'.os.trans h1.os, h'.tape.trans h1.tape, h'.output.trans h1.output, Nat.le_trans h1.size h'.size, fun k v hc ha j hj hKj => h'.av k v hc ha j hj (hK j hKj), h.nb, h.lt, fun j hj => (h'.block j (hK j hj)).trans (h1.block j hj)⟩
end Go.Proofs.YtdbnddmncbjobaaGreatDoor

/- index.Merge: walked (printed by genyo.py). -/
namespace Go.Proofs.YtdbnddmncbjobaaGreatDoor
open Go Go.RowKit Go.Maps
attribute [local go_sem] Oper.semAt_some

/-- Nothing below B but the block b has turned. -/
structure Bsd (B b : Nat) (W X : World) : Prop where
  os : X.os = W.os
  tape : X.tape = W.tape
  output : X.output = W.output
  size : W.heap.size ≤ X.heap.size
  block : ∀ j, j < B → j ≠ b → X.heap[j]? = W.heap[j]?
theorem Bsd.refl (B b : Nat) (W : World) : Bsd B b W W := ⟨rfl, rfl, rfl, Nat.le_refl _, fun _ _ _ => rfl⟩
theorem Bsd.ext {B b : Nat} {W X : World} (h : Bsd B b W X) (hB : B ≤ W.heap.size) {Y : World} (hY : Ext X Y) : Bsd B b W Y :=
  ⟨hY.os.trans h.os, hY.tape.trans h.tape, hY.output.trans h.output, Nat.le_trans h.size hY.size, fun j hj hb => (hY.block j (by have := h.size; omega)).trans (h.block j hj hb)⟩
theorem Bsd.push {B b n : Nat} {hs : List (List UInt8 × Ct)} {W0 W X X2 : World} {k : List UInt8} {ys : List Ct} {v : Value} {D' : DV} (h : Bsd B b W0 W) (hB : B ≤ W0.heap.size) (hX : Ext W X) (hp : Pushed B b n hs W X k ys v D' X2) : Bsd B b W0 X2 :=
  have h2 := h.ext hB hX
  ⟨hp.os.trans h2.os, hp.tape.trans h2.tape, hp.output.trans h2.output, Nat.le_trans h2.size hp.size, fun j hj hb => (hp.block j (by have := h2.size; omega) (.inl hj) hb).trans (h2.block j hj hb)⟩
theorem Ext.grown {W X : World} (h : Ext W X) : W.grownBy X none := ⟨h.os, h.tape, h.output, h.size, fun j hj _ => h.block j hj⟩
def MeR (B b N : Nat) (U : Tb) (w2 : World) (s14 : Value) (W : World) : Prop := ∃ (i : Nat) (D : DV), i ≤ N ∧ s14 = .int .i64 i ∧ GMap B b i (prs (U.take i)) D W ∧ Bsd B b w2 W
set_option maxHeartbeats 4000000 in
set_option maxRecDepth 100000 in
theorem imerge_any (w : World) (A A' : Option Addr) (n n' c c' M M' : Nat) (S T : Tb) (hS : TbV w A n c S M) (hT : TbV w A' n' c' T M') (hM : M + M' ≤ 10000) :
    Calls Tryz.prog 25 #[.slice A n c, .slice A' n' c'] w fun e w' => ∃ A1 n1 c1, e = .returned (.slice A1 n1 c1) ∧ TbV w' A1 n1 c1 (mrgP S T) (M + M') ∧ Ext w w' := by
  have hmm := @run_makeMap Tryz.prog
  obtain ⟨hn, hnM, _⟩ := hS.n
  obtain ⟨hn', hnM', _⟩ := hT.n
  obtain ⟨U, hU⟩ : ∃ U, S ++ T = U := ⟨_, rfl⟩
  have HUL := Lib.hid (show U.length = n + n' by rw [← hU, List.length_append, hn, hn'])
  have HUP := Lib.hid (show (prs U).length ≤ M + M' by rw [← hU, prs_append, List.length_append]; have := hS.len; have := hT.len; omega)
  have HUK := Lib.hid (show ∀ x ∈ U, x.1.length ≤ 1000 ∧ x.2 ≠ [] by
    rw [← hU]; intro x hx
    rcases List.mem_append.1 hx with hx | hx
    · exact ⟨hS.key x hx, hS.reg.some x hx⟩
    · exact ⟨hT.key x hx, hT.reg.some x hx⟩)
  have HMR := Lib.hid (show tabP (prs U) = mrgP S T by unfold mrgP; rw [← hU, prs_append])
  obtain ⟨b, hb⟩ : ∃ b, w.heap.size = b := ⟨_, rfl⟩
  obtain ⟨w0, hw0⟩ : ∃ w0, w.alloc (.map #[] 0) = w0 := ⟨_, rfl⟩
  have hx0 : Ext w w0 := by rw [← hw0]; exact (Ext.refl w).alloc _
  have hg0 : GMap (b + 1) b 0 [] (.map []) w0 := by rw [← hw0, ← hb]; exact GMap.made w
  obtain ⟨g, hg⟩ : ∃ g, w0.heap.size = g := ⟨_, rfl⟩
  have hgb : g = b + 1 := by rw [← hg, ← hw0, ← hb]; simp
  subst hgb
  obtain ⟨w1, hw1⟩ : ∃ w1, w0.alloc (.cells #[.slice A n c, .slice A' n' c'] 33) = w1 := ⟨_, rfl⟩
  have hx1 : Ext w0 w1 := by rw [← hw1]; exact (Ext.refl w0).alloc _
  have hG : w1.heap[b + 1]? = some (.cells #[.slice A n c, .slice A' n' c'] 33 (0, 0)) := by rw [← hw1, ← hg]; exact heap_alloc_new _ _
  have HCAT := Lib.hid (cat70 kIt kIt_sz (fun j => j < b) w1 (b + 1) A A' n n' c c' S T (Lay.row_ext (Lay.row_mono hS.row fun j _ hj => by rw [← hb]; exact hj) (hx0.trans hx1)) (Lay.row_ext (Lay.row_mono hT.row fun j _ hj => by rw [← hb]; exact hj) (hx0.trans hx1)) (by omega) (by omega) (lt_of_block hG) (cell_of hG (i := 0) rfl) (cell_of hG (i := 1) rfl))
  rw [hU] at HCAT
  have HG0 := Lib.hid hg0
  have HX0 := Lib.hid hx0
  have HX1 := Lib.hid hx1
  have HGB := Lib.hid hG
  have hb1 : b + 1 ≤ w1.heap.size := by have := hx1.lt; omega
  have HB1 := Lib.hid hb1
  obtain ⟨N, hN⟩ : ∃ N, n + n' = N := ⟨_, rfl⟩
  have HN := Lib.hid hN
  have HWB := Lib.hid hb
  clear hS hT hn hn' hU hg0 hx0 hx1 hG hb1
  go_enter Tryz.func25, Tryz.ntmps25
  go_wp2_with (first
    | (go_at_call 70; refine (HCAT.out).mono ?_; rintro e w2 ⟨A1, c1, rfl, ho, hx2⟩; have HO := Lib.hid ho; have HX2 := Lib.hid hx2; clear ho hx2))
  rw [HUL.out, HN.out] at HO ⊢
  obtain ⟨B, hB⟩ : ∃ B, w2.heap.size = B := ⟨_, rfl⟩
  have hBb : b + 1 < B := by have := HX2.out.lt; have := lt_of_block HGB.out; omega
  have hgm := ((HG0.out.keep (HX1.out.trans HX2.out).grown).raise (B' := B) (by omega))
  have HRU := Lib.hid (show kIt.row w2 (fun j => j < B ∧ j ≠ b) A1 N U from by
    obtain ⟨A9, c9, e9, _, hr9⟩ := Lay.own_row HO.out
    have hlt := Lay.own_lt HO.out
    obtain ⟨rfl, e2, _⟩ := Value.slice.inj e9
    rw [← e2] at hr9
    refine Lay.row_mono hr9 fun j hj hjl => ⟨by omega, ?_⟩
    rcases hj with hj | hj
    · omega
    · have := (hlt j hj).1; have := HB1.out; omega)
  have HXB := Lib.hid (show Ext w w2 from HX0.out.trans (HX1.out.trans HX2.out))
  have HBB := Lib.hid (And.intro hBb hB)
  have HG2 := Lib.hid hgm
  have hN4 : N ≤ 10000 := by have := HN.out; omega
  clear hgm hBb hB HG0 HO HX0 HX1 HX2 HCAT HGB HB1
  go_loopw [7, 14] (fun _ s14 W => MeR B b N U w2 s14 W) (fun _ s14 _ => toM N s14)
  case atStart => exact ⟨0, .map [], by omega, rfl, HG2.out, Bsd.refl _ _ _⟩
  case round =>
    obtain ⟨i, D, hi, rfl, hgm, hbs⟩ := hrel
    have HGM := Lib.hid hgm
    have HBS := Lib.hid hbs
    clear hgm hbs
    have hw1' : IntKind.i64.wrap ((i : Int) + 1) = (i : Int) + 1 := IntWalk.i64_in _ (by omega)
    by_cases hlt : i < N
    case neg =>
      have hni : ¬ ((i : Int) < (N : Int)) := by omega
      have hti : U.take i = U := List.take_of_length_le (by rw [HUL.out, HN.out]; omega)
      have hgm9 := HGM.out
      rw [hti] at hgm9
      have hBw : B ≤ wr.heap.size := by have := HBB.out.2; have := HBS.out.size; omega
      have HIT := Lib.hid (items_any wr B b i (prs U) D hgm9 hBw (by have := HUP.out; omega) (fun h hh => by
        obtain ⟨l, hl, _⟩ := (mem_prs U h.1 h.2).1 hh
        exact (HUK.out _ hl).1))
      clear hgm9 hti hBw
      go_wp2_with (first | (go_at_call 57; refine (HIT.out).mono ?_; rintro e w5 ⟨A5, m5, c5, rfl, hT5, hb5⟩; have HT5 := Lib.hid hT5; have HB5 := Lib.hid hb5; clear hT5 hb5))
      go_ret
      refine ⟨A5, m5, c5, rfl, by rw [← HMR.out]; exact HT5.out.mono HUP.out, ?_⟩
      have h1 := HB5.out
      have h2 := HBS.out
      have h3 := HXB.out
      exact ⟨h1.os.trans (h2.os.trans h3.os), h1.tape.trans (h2.tape.trans h3.tape), h1.output.trans (h2.output.trans h3.output), Nat.le_trans h3.size (Nat.le_trans h2.size h1.size), fun j hj => by
        have hjb : j < b := by rw [← HWB.out]; exact hj
        have := HBB.out.1
        exact (h1.block j (by omega)).trans ((h2.block j (by omega) (by omega)).trans (h3.block j hj))⟩
    have hI : (i : Int) < (N : Int) := by omega
    obtain ⟨x, hx⟩ : ∃ x, U[i]? = some x := ⟨_, List.getElem?_eq_getElem (by rw [HUL.out, HN.out]; exact hlt)⟩
    have hxm := HUK.out x (List.mem_of_getElem? hx)
    have hru : kIt.row wr (fun j => j < B ∧ j ≠ b) A1 N U := Lay.row_keep HRU.out HBS.out.size fun j hj _ => HBS.out.block j hj.1 hj.2
    obtain ⟨gb, off, A2, n2, c2, rfl, hgbl, a0, a1, hnc2, hr2⟩ := it_at hru hx
    have hY0 : ∀ o, (wr.alloc o).cell? ⟨gb, off + i * 2, none⟩ = some (.string ⟨x.1.toArray⟩) := fun o => (((Ext.refl wr).alloc o).cells.1 gb _ hgbl).trans a0
    have hY1 : ∀ o, (wr.alloc o).cell? ⟨gb, off + i * 2 + 1, none⟩ = some (.slice A2 n2 c2) := fun o => (((Ext.refl wr).alloc o).cells.1 gb _ hgbl).trans a1
    obtain ⟨z, hz⟩ : ∃ z, wr.heap.size = z := ⟨_, rfl⟩
    obtain ⟨w3, hw3⟩ : ∃ w3, wr.alloc (.cells #[.string ⟨x.1.toArray⟩, .slice A2 n2 c2] 99) = w3 := ⟨_, rfl⟩
    have hx3 : Ext wr w3 := by rw [← hw3]; exact (Ext.refl wr).alloc _
    have hB3 : w3.heap[z]? = some (.cells #[.string ⟨x.1.toArray⟩, .slice A2 n2 c2] 99 (0, 0)) := by rw [← hw3, ← hz]; exact heap_alloc_new _ _
    have hzl := lt_of_block hB3
    have hBw : B ≤ wr.heap.size := by have := HBB.out.2; have := HBS.out.size; omega
    have htk := prs_take hx
    have htl := prs_take_le U (i + 1)
    have htl2 := prs_take_le U i
    obtain ⟨v, hlook, hpush⟩ := GMap.push HGM.out hBw (k := x.1) (by unfold maxLen; omega) (by omega) (by have := HUP.out; omega)
    obtain ⟨A5, m5, c5, X1, hrun, hmap1, hs1, hk1, D', X2, hrun2, hp⟩ := hpush w3.drew hx3.drew.grown _ A2 n2 c2 x.2 (Lay.row_ext hr2 hx3.drew) hxm.2 (by rw [htk, List.length_append, List.length_map] at htl; have := HUP.out; omega)
    have hzb : z ≠ b := by have := HBB.out.1; omega
    have HS := Lib.hid (show w3.drew.cell? ⟨z, 0, none⟩ = some (.string ⟨x.1.toArray⟩) ∧ w3.drew.cell? ⟨z, 1, none⟩ = some (.slice A2 n2 c2) ∧ (Instr.lookup 105 (.map (some b)) (.string ⟨x.1.toArray⟩) false).run Tryz.prog w3.drew = .ok v w3.drew from
      ⟨cell_of (W := w3.drew) hB3 (i := 0) rfl, cell_of (W := w3.drew) hB3 (i := 1) rfl, hlook _ (HGM.out.own.kept hx3.drew.grown (by simp))⟩)
    have HS1 := Lib.hid (show X1.cell? ⟨z, 0, none⟩ = some (.string ⟨x.1.toArray⟩) ∧ X1.cell? ⟨z, 1, none⟩ = some (.slice A2 n2 c2) ∧ (Instr.lookup 105 (.map (some b)) (.string ⟨x.1.toArray⟩) false).run Tryz.prog X1 = .ok v X1 from by
      have h9 : X1.heap[z]? = _ := (hk1 z hzl (.inr (by omega)) hzb).trans hB3
      exact ⟨cell_of h9 (i := 0) rfl, cell_of h9 (i := 1) rfl, hlook _ hmap1⟩)
    have RUN := Lib.hid hrun
    have RUN2 := Lib.hid hrun2
    have HREL := Lib.hid (show MeR B b N U w2 (.int .i64 ((i : Int) + 1)) X2 from ⟨i + 1, D', by omega, by simp, by rw [htk]; exact hp.gm, HBS.out.push (by have := HBB.out.2; omega) hx3.drew hp⟩)
    clear hx hxm hru hr2 hx3 hB3 hzl hBw htk htl htl2 hlook hpush hrun hmap1 hs1 hk1 hrun2 hp hzb
    go_upto_region 5 with (fail)
    have hS0 : (fun X : World => X.cell? ⟨z, 0, none⟩ = some (.string ⟨x.1.toArray⟩) ∧ X.cell? ⟨z, 1, none⟩ = some (.slice A2 n2 c2) ∧ (Instr.lookup 105 (.map (some b)) (.string ⟨x.1.toArray⟩) false).run Tryz.prog X = .ok v X) w3.drew := HS.out
    refine wp_region_E (fun X : World => X.cell? ⟨z, 0, none⟩ = some (.string ⟨x.1.toArray⟩) ∧ X.cell? ⟨z, 1, none⟩ = some (.slice A2 n2 c2) ∧ (Instr.lookup 105 (.map (some b)) (.string ⟨x.1.toArray⟩) false).run Tryz.prog X = .ok v X) (fun _ => True) (fun i => i == 10) (by kernel_rfl) ?_
    refine wpE_takeS (i := 0) (d := some 18) (v := .map (some b)) rfl rfl (by kernel_rfl) (by kernel_rfl) (by kernel_rfl) (by kernel_rfl) (fun _ _ _ h => h) (by rfl) ?hy1 hS0 trivial ?go1
    case hy1 =>
      intro w9 hT9
      clear hT9; go_simp
    (try simp only [Act.put, List.setIfInBounds_toArray, List.set_cons_zero, List.set_cons_succ])
    refine wpE_takeS (i := 1) (d := some 19) (v := .pointer (some ⟨z, 0, none⟩)) rfl rfl (by kernel_rfl) (by kernel_rfl) (by kernel_rfl) (by kernel_rfl) (fun _ _ _ h => h) (by rfl) ?hy2 hS0 trivial ?go2
    case hy2 =>
      intro w9 hT9
      clear hT9; go_simp
    (try simp only [Act.put, List.setIfInBounds_toArray, List.set_cons_zero, List.set_cons_succ])
    refine wpE_takeS (i := 2) (d := some 20) (v := .string ⟨x.1.toArray⟩) rfl rfl (by kernel_rfl) (by kernel_rfl) (by kernel_rfl) (by kernel_rfl) (fun _ _ _ h => h) (by rfl) ?hy3 hS0 trivial ?go3
    case hy3 =>
      intro w9 hT9
      obtain ⟨s0, s1, s2⟩ := hT9; go_simp
    (try simp only [Act.put, List.setIfInBounds_toArray, List.set_cons_zero, List.set_cons_succ])
    refine wpE_takeS (i := 3) (d := some 21) (v := .map (some b)) rfl rfl (by kernel_rfl) (by kernel_rfl) (by kernel_rfl) (by kernel_rfl) (fun _ _ _ h => h) (by rfl) ?hy4 hS0 trivial ?go4
    case hy4 =>
      intro w9 hT9
      clear hT9; go_simp
    (try simp only [Act.put, List.setIfInBounds_toArray, List.set_cons_zero, List.set_cons_succ])
    refine wpE_takeS (i := 4) (d := some 22) (v := .pointer (some ⟨z, 0, none⟩)) rfl rfl (by kernel_rfl) (by kernel_rfl) (by kernel_rfl) (by kernel_rfl) (fun _ _ _ h => h) (by rfl) ?hy5 hS0 trivial ?go5
    case hy5 =>
      intro w9 hT9
      clear hT9; go_simp
    (try simp only [Act.put, List.setIfInBounds_toArray, List.set_cons_zero, List.set_cons_succ])
    refine wpE_takeS (i := 5) (d := some 23) (v := .string ⟨x.1.toArray⟩) rfl rfl (by kernel_rfl) (by kernel_rfl) (by kernel_rfl) (by kernel_rfl) (fun _ _ _ h => h) (by rfl) ?hy6 hS0 trivial ?go6
    case hy6 =>
      intro w9 hT9
      obtain ⟨s0, s1, s2⟩ := hT9; go_simp
    (try simp only [Act.put, List.setIfInBounds_toArray, List.set_cons_zero, List.set_cons_succ])
    refine wpE_takeS (i := 6) (d := some 24) (v := v) rfl rfl (by kernel_rfl) (by kernel_rfl) (by kernel_rfl) (by kernel_rfl) (fun _ _ _ h => h) (by rfl) ?hy7 hS0 trivial ?go7
    case hy7 =>
      intro w9 hT9
      obtain ⟨s0, s1, s2⟩ := hT9; go_simp
    (try simp only [Act.put, List.setIfInBounds_toArray, List.set_cons_zero, List.set_cons_succ])
    refine wpE_takeS (i := 7) (d := some 25) (v := .pointer (some ⟨z, 1, none⟩)) rfl rfl (by kernel_rfl) (by kernel_rfl) (by kernel_rfl) (by kernel_rfl) (fun _ _ _ h => h) (by rfl) ?hy8 hS0 trivial ?go8
    case hy8 =>
      intro w9 hT9
      clear hT9; go_simp
    (try simp only [Act.put, List.setIfInBounds_toArray, List.set_cons_zero, List.set_cons_succ])
    refine wpE_takeS (i := 8) (d := some 26) (v := .slice A2 n2 c2) rfl rfl (by kernel_rfl) (by kernel_rfl) (by kernel_rfl) (by kernel_rfl) (fun _ _ _ h => h) (by rfl) ?hy9 hS0 trivial ?go9
    case hy9 =>
      intro w9 hT9
      obtain ⟨s0, s1, s2⟩ := hT9; go_simp
    (try simp only [Act.put, List.setIfInBounds_toArray, List.set_cons_zero, List.set_cons_succ])
    refine wpE_all (rs := [9]) (by kernel_rfl) (by simp) ?_
    refine AllE.cons rfl (fun K hK => ?_) AllE.nil
    simp only [List.getElem_toArray, List.getElem_cons_succ, List.getElem_cons_zero]
    refine step_append_tm (s := .tmp 24) (x := .tmp 26) RUN.out rfl rfl rfl rfl rfl ?_
    refine hK.out _ _ ⟨fun _ => HS1.out, trivial⟩ (fun _ => ?_)
    clear hK K
    have hS0 := HS1.out
    (try simp only [Act.put, List.setIfInBounds_toArray, List.set_cons_zero, List.set_cons_succ])
    refine wpE_all (rs := [10]) (by kernel_rfl) (by simp) ?_
    refine AllE.cons rfl (fun K hK => ?_) AllE.nil
    simp only [List.getElem_toArray, List.getElem_cons_succ, List.getElem_cons_zero]
    refine step_mapU (m := .tmp 18) (k := .tmp 20) (x := .tmp 27) RUN2.out rfl rfl rfl rfl rfl ?_
    refine hK.out _ _ ⟨fun h => absurd h (by simp), trivial⟩ (fun _ => ?_)
    clear hK K
    (try simp only [Act.put])
    refine wpE_done (by kernel_rfl) ?_ _
    go_wp2_with fail
    go_roundw
    case rel => exact HREL.out
    case measure => simp only [toM]; omega
end Go.Proofs.YtdbnddmncbjobaaGreatDoor

/- book.Strike at an entry whose section is frozen: walked. -/
namespace Go.Proofs.YtdbnddmncbjobaaGreatDoor
open Go Go.RowKit

theorem idxI_some {β : Type} (p : β → Bool) : ∀ xs : List β, 0 ≤ idxI p xs → ∃ (i : Nat) (x : β), idxI p xs = (i : Int) ∧ xs[i]? = some x ∧ p x = true := by
  intro xs
  induction xs with
  | nil => intro h; simp [idxI] at h
  | cons a r ih =>
    intro h
    rw [idxI] at h ⊢
    by_cases ha : p a = true
    · rw [if_pos ha]; exact ⟨0, a, rfl, rfl, ha⟩
    · rw [if_neg ha] at h ⊢
      cases hq : idxI p r with
      | ofNat k =>
        obtain ⟨i, x, h1, h2, h3⟩ := ih (by rw [hq]; exact Int.natCast_nonneg k)
        rw [hq] at h1
        have hk : k = i := by have h1' : (k : Int) = (i : Int) := h1; omega
        subst hk
        exact ⟨k + 1, x, by simp, by simpa using h2, h3⟩
      | negSucc k => rw [hq] at h; simp at h
theorem idxI_none {β : Type} (p : β → Bool) : ∀ xs : List β, ¬ 0 ≤ idxI p xs → ∀ x ∈ xs, p x = false := by
  intro xs h
  have := idxI_any p xs
  rw [decide_eq_false h] at this
  intro x hx
  have h2 := List.any_eq_false.1 this.symm x hx
  simpa using h2
end Go.Proofs.YtdbnddmncbjobaaGreatDoor

/- book.Text: walked. -/
namespace Go.Proofs.YtdbnddmncbjobaaGreatDoor
open Go Go.RowKit
attribute [local go_sem] Oper.semAt_some

theorem find_idx {α : Type} (p : α → Bool) : ∀ xs : List α, xs.find? p = if 0 ≤ idxI p xs then xs[(idxI p xs).toNat]? else none
  | [] => rfl
  | x :: r => by
    have ih := find_idx p r
    rw [List.find?_cons, idxI]
    cases hp : p x with
    | true => simp
    | false =>
      simp only [Bool.false_eq_true, if_false]
      rw [ih]
      cases hi : idxI p r with
      | ofNat i =>
        have h1 : (0 : Int) ≤ Int.ofNat i := Int.natCast_nonneg i
        have h2 : (0 : Int) ≤ (i : Int) + 1 := by omega
        simp only [if_pos h1]
        rw [if_pos h2, show ((i : Int) + 1).toNat = i + 1 by omega]
        rfl
      | negSucc i =>
        rw [if_neg (by omega)]
        exact (if_neg (show ¬ (0 : Int) ≤ -1 by omega)).symm
theorem zip_idx (v : Int) : ∀ (vs : List Int) (ts : List Tx), vs.length = ts.length → ((vs.zip ts).find? fun q => q.1 == v).map (·.2) = if 0 ≤ idxI (fun u => u == v) vs then ts[(idxI (fun u => u == v) vs).toNat]? else none
  | [], _, _ => rfl
  | _ :: _, [], h => by simp at h
  | a :: vs, t :: ts, h => by
    have ih := zip_idx v vs ts (by simpa using h)
    rw [List.zip_cons_cons, List.find?_cons, idxI]
    cases hp : a == v with
    | true => simp
    | false =>
      simp only [Bool.false_eq_true, if_false]
      rw [ih]
      cases hi : idxI (fun u => u == v) vs with
      | ofNat i =>
        have h1 : (0 : Int) ≤ Int.ofNat i := Int.natCast_nonneg i
        have h2 : (0 : Int) ≤ (i : Int) + 1 := by omega
        simp only [if_pos h1]
        rw [if_pos h2, show ((i : Int) + 1).toNat = i + 1 by omega]
        rfl
      | negSucc i =>
        rw [if_neg (by omega)]
        exact (if_neg (show ¬ (0 : Int) ≤ -1 by omega)).symm
theorem textB_cases (b : Bk) (hv : ∀ x ∈ b.secs, x.vers.length = x.texts.length) (e v : Int) :
    (idxI (fun x => x.ent == e) b.secs < 0 ∧ textB b e v = none) ∨ ∃ (i : Nat) (x : Se), idxI (fun x => x.ent == e) b.secs = i ∧ b.secs[i]? = some x ∧
      ((idxI (fun u => u == v) x.vers < 0 ∧ textB b e v = none) ∨ ∃ (k : Nat) (t : Tx), idxI (fun u => u == v) x.vers = k ∧ x.vers[k]? = some v ∧ x.texts[k]? = some t ∧ textB b e v = some t) := by
  unfold textB
  rw [find_idx]
  by_cases h0 : 0 ≤ idxI (fun x => x.ent == e) b.secs
  · obtain ⟨i, x, hi, hx, _⟩ := idxI_some _ _ h0
    refine .inr ⟨i, x, hi, hx, ?_⟩
    rw [if_pos h0, hi, Int.toNat_natCast, hx, Option.bind_some, zip_idx v x.vers x.texts (hv x (List.mem_of_getElem? hx))]
    by_cases h1 : 0 ≤ idxI (fun u => u == v) x.vers
    · obtain ⟨k, u, hk, hu, huv⟩ := idxI_some _ _ h1
      have : u = v := by simpa using huv
      subst this
      obtain ⟨t, ht⟩ : ∃ t, x.texts[k]? = some t := ⟨_, List.getElem?_eq_getElem (by rw [← hv x (List.mem_of_getElem? hx)]; exact (List.getElem?_eq_some_iff.1 hu).1)⟩
      refine .inr ⟨k, t, hk, hu, ht, ?_⟩
      rw [if_pos h1, hk, Int.toNat_natCast, ht]
    · exact .inl ⟨by omega, by rw [if_neg h1]⟩
  · exact .inl ⟨by omega, by rw [if_neg h0]; rfl⟩
/-- A text, or none. -/
def TxGet (R : Nat → Prop) (w : World) (o : Option Tx) (e : Ending) (w' : World) : Prop := ∃ A n c A' n' c', e = .returned (.tuple #[.agg #[.slice A n c, .slice A' n' c'], .bool o.isSome]) ∧ n ≤ c ∧ n' ≤ c' ∧ kWs.row w' R A n (o.getD ⟨[], []⟩).paras ∧ kWs.row w' R A' n' (o.getD ⟨[], []⟩).notes ∧ Ext w w'
theorem TxGet.no {R : Nat → Prop} {w w' : World} (hx : Ext w w') : TxGet R w none (.returned (.tuple #[.agg #[.slice none 0 0, .slice none 0 0], .bool false])) w' :=
  ⟨none, 0, 0, none, 0, 0, rfl, Nat.le_refl _, Nat.le_refl _, Lay.row_nil _ _ _, Lay.row_nil _ _ _, hx⟩
structure TbxB (z : Nat) (u v : Value) (W : World) : Prop where
  b : W.heap[z]? = some (.cells #[u, v] 53 (0, 0))
theorem TbxB.set {z : Nat} {a b : Value} {W w : World} (h : TbxB z a b W) (hw : w.heap.size ≤ z) (hx : Ext w W) (u v : Value) :
    TbxB z u v ((W.setCell ⟨z, 0, none⟩ u).setCell ⟨z, 1, none⟩ v) ∧ Ext w ((W.setCell ⟨z, 0, none⟩ u).setCell ⟨z, 1, none⟩ v) ∧ ∀ j, j ≠ z → ((W.setCell ⟨z, 0, none⟩ u).setCell ⟨z, 1, none⟩ v).heap[j]? = W.heap[j]? :=
  ⟨⟨heap_setCell_same _ z 1 _ 53 _ (heap_setCell_same _ z 0 _ 53 _ h.b)⟩, (hx.setCell (p := ⟨z, 0, none⟩) hw _).setCell (p := ⟨z, 1, none⟩) hw _, fun j hj => by
    rw [heap_setCell_other _ ⟨z, 1, none⟩ j _ hj, heap_setCell_other _ ⟨z, 0, none⟩ j _ hj]⟩
set_option maxHeartbeats 4000000 in
set_option maxRecDepth 100000 in
theorem btext_any (P : Nat → Prop) (w : World) (b : Bk) (e v : Int) (A : Option Addr) (N c : Nat) (hr : kSe.row w P A N b.secs) (hs : BkS b.secs) (hv : ∀ x ∈ b.secs, x.vers.length = x.texts.length) :
    Calls Tryz.prog 52 #[.agg #[.int .i64 b.ms, .int .i64 b.ht, .slice A N c], .int .i64 e, .int .i64 v] w (TxGet (fun j => w.heap.size ≤ j) w (textB b e v)) := by
  obtain ⟨z, hz⟩ : ∃ z, w.heap.size = z := ⟨_, rfl⟩
  obtain ⟨w0, hw0⟩ : ∃ w0, (w.alloc (.cells #[.int .i64 b.ms, .int .i64 b.ht, .slice A N c] 27)).alloc (.cells #[.slice none 0 0, .slice none 0 0] 53) = w0 := ⟨_, rfl⟩
  have hx0 : Ext w w0 := by rw [← hw0]; exact ((Ext.refl w).alloc _).alloc _
  have hB0 : w0.heap[z]? = some (.cells #[.int .i64 b.ms, .int .i64 b.ht, .slice A N c] 27 (0, 0)) := by
    rw [← hw0, ← hz, heap_alloc_old _ _ _ (by simp)]; exact heap_alloc_new _ _
  have hB1 : TbxB (z + 1) (.slice none 0 0) (.slice none 0 0) w0 := ⟨by rw [← hw0, ← hz]; exact heap_alloc_at _ _ _ _ (by simp)⟩
  have HX0 := Lib.hid hx0
  have HZ := Lib.hid hz
  have HB0 := Lib.hid hB0
  have HB1 := Lib.hid hB1
  have HBS := Lib.hid hs
  have HNN := Lib.hid (show N ≤ 1000000 by rw [Lay.row_len hr]; exact hs.n)
  have HR := Lib.hid (fun X (hX : Ext w0 X) => Lay.row_ext (Lay.row_ext hr hx0) hX)
  have HFI := Lib.hid (find_any P w0 b.ms b.ht e b.secs A N c (Lay.row_ext hr hx0) (by rw [Lay.row_len hr]; exact hs.n))
  have a0 := cell_of hB0 (i := 0) rfl
  have a1 := cell_of hB0 (i := 1) rfl
  have a2 := cell_of hB0 (i := 2) rfl
  have HCA := Lib.hid (textB_cases b hv e v)
  obtain ⟨o, ho⟩ : ∃ o, textB b e v = o := ⟨_, rfl⟩
  rw [ho] at HCA ⊢
  clear hr hs hv hx0 hB0 hB1 ho
  go_enter Tryz.func52, Tryz.ntmps52
  go_upto_region 1 with (fail)
  clear hw0 hz
  rcases HCA.out with ⟨hi, rfl⟩ | ⟨i, x, hi, hx, hk⟩
  · obtain ⟨q, hq⟩ : ∃ q, idxI (fun x => x.ent == e) b.secs = q := ⟨_, rfl⟩
    rw [hq] at HFI hi
    clear hq HCA
    go_upto_region 3 with (first | (go_at_call 81; refine (HFI.out).mono ?_; rintro r w2 ⟨rfl, hx2⟩; have HX2 := Lib.hid hx2; clear hx2))
    have HT2 := Lib.hid (show TbxB (z + 1) (.slice none 0 0) (.slice none 0 0) w2 from ⟨(HX2.out.block _ (lt_of_block HB1.out.b)).trans HB1.out.b⟩)
    have f0 := frozen_of HT2.out.b 0
    have f1 := frozen_of HT2.out.b 1
    have e0 := cell_of HT2.out.b (i := 0) rfl
    have e1 := cell_of HT2.out.b (i := 1) rfl
    go_wp2_with fail
    obtain ⟨Y, hY⟩ : ∃ Y, (w2.setCell ⟨z + 1, 0, none⟩ (.slice none 0 0)).setCell ⟨z + 1, 1, none⟩ (.slice none 0 0) = Y := ⟨_, rfl⟩
    obtain ⟨g1, g2, _⟩ := HT2.out.set (w := w) (by have := HZ.out; omega) (HX0.out.trans HX2.out) (.slice none 0 0) (.slice none 0 0)
    rw [hY] at g1 g2 ⊢
    have q0 := cell_of g1.b (i := 0) rfl
    have q1 := cell_of g1.b (i := 1) rfl
    refine bodyPost_ret (v := .tuple #[.agg #[.slice none 0 0, .slice none 0 0], .bool false]) (by simp [results, Tryz.results52, go_sem, q0, q1]) rfl ?_
    exact TxGet.no g2
  rw [hi] at HFI
  have hiN : (i : Int) < (N : Int) := by have := (List.getElem?_eq_some_iff.1 hx).1; have := Lay.row_len (HR.out w0 (Ext.refl _)); omega
  have hi0 : ¬ ((i : Int) < 0) := by omega
  have HXI := Lib.hid hx
  have HKC := Lib.hid hk
  clear hi hx hk HCA
  go_upto_region 4 with (first | (go_at_call 81; refine (HFI.out).mono ?_; rintro r w2 ⟨rfl, hx2⟩; have HX2 := Lib.hid hx2; clear hx2))
  obtain ⟨bs, os, cs, rfl, hbs, _, hrep, hcs⟩ := Lay.row_at (HR.out w2 HX2.out) HXI.out
  obtain ⟨A1, n1, c1, A2, n2, c2, rfl, hn1, hn2, rv, rt⟩ := kSe_rep.1 hrep
  have s2 := hcs 2 _ rfl
  have s3 := hcs 3 _ rfl
  rw [kSe_sz] at s2 s3
  have HSC := Lib.hid (fun X (hX : Ext w2 X) => (show X.cell? ⟨bs, os + i * 4 + 2, none⟩ = some (.slice A1 n1 c1) ∧ X.cell? ⟨bs, os + i * 4 + 3, none⟩ = some (.slice A2 n2 c2) ∧ X.cell? ⟨z, 2, none⟩ = some (.slice (some ⟨bs, os, none⟩) N c) from
    ⟨(hX.cells.1 bs _ hbs).trans s2, (hX.cells.1 bs _ hbs).trans s3, cell_of (((HX2.out.trans hX).block _ (lt_of_block HB0.out)).trans HB0.out) (i := 2) rfl⟩))
  have HRT := Lib.hid (fun X (hX : Ext w2 X) => Lay.row_ext rt hX)
  have hxm := List.mem_of_getElem? HXI.out
  have HIX := Lib.hid (index_int P w2 A1 n1 c1 x.vers v rv (by rw [Lay.row_len rv]; exact HBS.out.nv x hxm))
  have hn2l := Lay.row_len rt
  clear s2 s3 rv rt hrep hcs a0 a1 a2
  obtain ⟨s2, s3, a2⟩ := HSC.out w2 (Ext.refl _)
  have HT2 := Lib.hid (fun X (hX : Ext w2 X) => (show TbxB (z + 1) (.slice none 0 0) (.slice none 0 0) X from ⟨((HX2.out.trans hX).block _ (lt_of_block HB1.out.b)).trans HB1.out.b⟩))
  rcases HKC.out with ⟨hk, rfl⟩ | ⟨k, t, hk, hkv, hkt, rfl⟩
  · obtain ⟨q, hq⟩ : ∃ q, idxI (fun u => u == v) x.vers = q := ⟨_, rfl⟩
    rw [hq] at HIX hk
    clear hq HKC
    go_upto_region 6 with (first | (go_at_call 107; refine (HIX.out).mono ?_; rintro r w3 ⟨rfl, rfl⟩))
    have hT2 := HT2.out w2 (Ext.refl _)
    have f0 := frozen_of hT2.b 0
    have f1 := frozen_of hT2.b 1
    have e0 := cell_of hT2.b (i := 0) rfl
    have e1 := cell_of hT2.b (i := 1) rfl
    go_wp2_with fail
    obtain ⟨Y, hY⟩ : ∃ Y, (w2.setCell ⟨z + 1, 0, none⟩ (.slice none 0 0)).setCell ⟨z + 1, 1, none⟩ (.slice none 0 0) = Y := ⟨_, rfl⟩
    obtain ⟨g1, g2, _⟩ := hT2.set (w := w) (by have := HZ.out; omega) (HX0.out.trans HX2.out) (.slice none 0 0) (.slice none 0 0)
    rw [hY] at g1 g2 ⊢
    have q0 := cell_of g1.b (i := 0) rfl
    have q1 := cell_of g1.b (i := 1) rfl
    refine bodyPost_ret (v := .tuple #[.agg #[.slice none 0 0, .slice none 0 0], .bool false]) (by simp [results, Tryz.results52, go_sem, q0, q1]) rfl ?_
    exact TxGet.no g2
  rw [hk] at HIX
  have hkn : (k : Int) < (n2 : Int) := by have := (List.getElem?_eq_some_iff.1 hkt).1; omega
  have hk0 : ¬ ((k : Int) < 0) := by omega
  have HKT := Lib.hid hkt
  clear hk hkv hkt HKC
  go_upto_region 7 with (first | (go_at_call 107; refine (HIX.out).mono ?_; rintro r w3 ⟨rfl, rfl⟩))
  obtain ⟨bt, ot, ct, rfl, hbt, _, hrept, hct⟩ := Lay.row_at (HRT.out w2 (Ext.refl _)) HKT.out
  obtain ⟨A5, n5, c5, A6, n6, c6, rfl, hn5, hn6, r5, r6⟩ := kTx_rep.1 hrept
  have t0 := hct 0 _ rfl
  have t1 := hct 1 _ rfl
  rw [kTx_sz] at t0 t1
  rw [Nat.add_zero] at t0
  have hts := HBS.out.tx x hxm t (List.mem_of_getElem? HKT.out)
  have HTX := Lib.hid (text_any P w2 t A5 A6 n5 n6 c5 c6 r5 r6 (by rw [Lay.row_len r5]; exact hts.np) (by rw [Lay.row_len r6]; exact hts.nn) hts.len)
  clear r5 r6 hrept hct hts hxm
  go_wp2_with (first | (go_at_call 84; refine (HTX.out).mono ?_; rintro r w4 ⟨val, rfl, hval, hx4⟩; obtain ⟨A7, n7, c7, A8, n8, c8, rfl, hn7, hn8, r7, r8⟩ := hval; have HX4 := Lib.hid hx4; have HR7 := Lib.hid r7; have HR8 := Lib.hid r8; have hT4 := HT2.out w4 hx4; have f0 := frozen_of hT4.b 0; have f1 := frozen_of hT4.b 1; have e0 := cell_of hT4.b (i := 0) rfl; have e1 := cell_of hT4.b (i := 1) rfl; clear hx4 r7 r8))
  obtain ⟨Y, hY⟩ : ∃ Y, (w4.setCell ⟨z + 1, 0, none⟩ (.slice A7 n7 c7)).setCell ⟨z + 1, 1, none⟩ (.slice A8 n8 c8) = Y := ⟨_, rfl⟩
  obtain ⟨g1, g2, g3⟩ := hT4.set (w := w) (by have := HZ.out; omega) (HX0.out.trans (HX2.out.trans HX4.out)) (.slice A7 n7 c7) (.slice A8 n8 c8)
  have hsz : ((w4.setCell ⟨z + 1, 0, none⟩ (.slice A7 n7 c7)).setCell ⟨z + 1, 1, none⟩ (.slice A8 n8 c8)).heap.size = w4.heap.size := by simp
  rw [hY] at g1 g2 g3 hsz ⊢
  have hzl : z + 1 < w2.heap.size := lt_of_block (HT2.out w2 (Ext.refl _)).b
  have q0 := cell_of g1.b (i := 0) rfl
  have q1 := cell_of g1.b (i := 1) rfl
  refine bodyPost_ret (v := .tuple #[.agg #[.slice A7 n7 c7, .slice A8 n8 c8], .bool true]) (by simp [results, Tryz.results52, go_sem, q0, q1]) rfl ?_
  exact ⟨A7, n7, c7, A8, n8, c8, rfl, hn7, hn8, Lay.row_mono (Lay.row_keep HR7.out (by omega) fun j hj _ => g3 j (by omega)) fun j hj _ => by have := HZ.out; omega, Lay.row_mono (Lay.row_keep HR8.out (by omega) fun j hj _ => g3 j (by omega)) fun j hj _ => by have := HZ.out; omega, g2⟩
end Go.Proofs.YtdbnddmncbjobaaGreatDoor

/- The lines of a generated book's pages are short. -/
namespace Go.Proofs.YtdbnddmncbjobaaGreatDoor
open Go Go.RowKit

theorem notesOf_mem {R : Ln → Prop} {notes : List (List Ln)} (hn : ∀ ls ∈ notes, ∀ l ∈ ls, R l) (x : Ln) : ∀ l ∈ notesOf notes x, R l := by
  intro l hl
  unfold notesOf at hl
  rw [List.mem_flatMap] at hl
  obtain ⟨n, _, h1⟩ := hl
  cases h2 : notes[n.toNat]? with
  | none => rw [h2] at h1; simp at h1
  | some ls => rw [h2] at h1; exact hn ls (List.mem_of_getElem? h2) l h1
theorem fillP_mem {R : Ln → Prop} (h : Int) {notes : List (List Ln)} (hn : ∀ ls ∈ notes, ∀ l ∈ ls, R l) : ∀ (body q : List Ln) (lines : Nat) (shown : Int), (∀ l ∈ q, R l) → ∀ l ∈ (fillP h notes body q lines shown).2.1, R l := by
  intro body
  induction body with
  | nil => intro q lines shown hq l hl; exact hq l hl
  | cons x r ih =>
    intro q lines shown hq l hl
    unfold fillP at hl
    split at hl
    · exact ih _ _ _ (fun y hy => by
        rcases List.mem_append.1 hy with hy | hy
        · exact hq y hy
        · exact notesOf_mem hn x y hy) l hl
    · exact hq l hl
theorem setF_mem {R : Ln → Prop} (h : Int) {notes : List (List Ln)} (hn : ∀ ls ∈ notes, ∀ l ∈ ls, R l) : ∀ (f : Nat) (body q : List Ln), (∀ l ∈ body, R l) → (∀ l ∈ q, R l) → ∀ pg ∈ setF h notes f body q, ∀ l ∈ pg.1 ++ pg.2, R l := by
  intro f
  induction f with
  | zero => intro body q _ _ pg hp; simp [setF] at hp
  | succ f ih =>
    intro body q hb hq pg hp
    unfold setF at hp
    split at hp
    · simp at hp
    · have hm := fillP_mem h hn body q 0 (min (q.length : Int) (h - 1)) hq
      rcases List.mem_cons.1 hp with rfl | hp
      · intro l hl
        rcases List.mem_append.1 hl with hl | hl
        · exact hb l (List.mem_of_mem_take hl)
        · exact hm l (List.mem_of_mem_take hl)
      · exact ih _ _ (fun l hl => hb l (List.mem_of_mem_drop hl)) (fun l hl => hm l (List.mem_of_mem_drop hl)) pg hp
theorem textP_lns {t : Tx} {m h : Int} (hT : TxP t m h) : ∀ pg ∈ (textP t m h).2, ∀ l ∈ pg.1 ++ pg.2, l.gaps.length ≤ 1000000 ∧ l.nts.length ≤ 1000000 := by
  rw [hT.eq]
  unfold setPg
  rw [if_neg (by rw [hT.pg]; simp)]
  have hb : ∀ {L : List Ln}, LnsB L → ∀ l ∈ L, l.gaps.length ≤ 1000000 ∧ l.nts.length ≤ 1000000 := fun hl l h => by have := hl l h; omega
  exact setF_mem h (fun ls hls => hb (hT.lnn ls hls)) _ _ _ (hb hT.lnb) (fun l hl => by simp at hl)
theorem OkB.lns {b : Bk} {N V : Nat} (h : OkB b N V) : ∀ p ∈ pagesB b, (∀ l ∈ p.body, l.gaps.length ≤ 1000000 ∧ l.nts.length ≤ 1000000) ∧ (∀ l ∈ p.nts, l.gaps.length ≤ 1000000 ∧ l.nts.length ≤ 1000000) := by
  intro p hp
  have := pagesS_all (fun x y => ∀ l ∈ x ++ y, l.gaps.length ≤ 1000000 ∧ l.nts.length ≤ 1000000) b.ms b.ht b.secs 0 (fun x hx t ht q hq => textP_lns (txP_of (h.tx x hx t ht) h.m0 h.m1 h.h0 h.h1) q hq) p hp
  exact ⟨fun l hl => this l (List.mem_append_left _ hl), fun l hl => this l (List.mem_append_right _ hl)⟩
end Go.Proofs.YtdbnddmncbjobaaGreatDoor
