/- made: the book and the seals of a case: walked. -/
import Derived.Test.YtdbnddmncbjobaaGreatDoorQbi
namespace Go.Proofs.YtdbnddmncbjobaaGreatDoor
section
open Go Go.RowKit
attribute [local go_sem] Oper.semAt_some

/-- What made gives. -/
def MadeGet (w : World) (e : Ending) (w' : World) : Prop := ∃ (b : Bk) (A : Option Addr) (n c : Nat) (A1 : Option Addr) (n1 c1 : Nat) (ls : List Sea), e = .returned (.tuple #[.agg #[.int .i64 b.ms, .int .i64 b.ht, .slice A n c], .slice A1 n1 c1]) ∧ OkG b ∧ n ≤ c ∧ kSe.row w' (fun _ => True) A n b.secs ∧ n1 ≤ c1 ∧ kSea.row w' (fun _ => True) A1 n1 ls ∧ ls.length ≤ 8 ∧ (∀ s ∈ ls, OkSea s) ∧ Ext w w'
set_option maxHeartbeats 8000000 in
set_option maxRecDepth 100000 in
theorem made_any (A A' : Option Addr) (c c' : Nat) (l l' : List Int) (br tb : Int) (w : World) (h : IL w A c l) (hl : l.length ≤ 9223372036854775807) (h' : IL w A' c' l') (hl' : l'.length ≤ 9223372036854775807) :
    Calls Tryz.prog 16 #[.agg #[.slice A l.length c, .slice A' l'.length c', .int .i64 br, .int .i64 tb]] w (MadeGet w) := by
  have HG := Lib.hid (fun X (hX : Ext w X) => gbook_any A c l X (h.ext hX) hl)
  have HS := Lib.hid (fun X (hX : Ext w X) P (b : Bk) B N cB hb hr => seals_any P X b A' B c' N cB l' (h'.ext hX) hl' hb hr)
  clear h h' hl hl'
  obtain ⟨n1, hn1⟩ : ∃ n1, l.length = n1 := ⟨_, rfl⟩
  obtain ⟨n2, hn2⟩ : ∃ n2, l'.length = n2 := ⟨_, rfl⟩
  rw [hn1] at HG ⊢
  rw [hn2] at HS ⊢
  clear hn1 hn2
  obtain ⟨z, hz⟩ : ∃ z, w.heap.size = z := ⟨_, rfl⟩
  obtain ⟨w1, hw1⟩ : ∃ w1, (w.alloc (.cells #[.slice A n1 c, .slice A' n2 c', .int .i64 br, .int .i64 tb] 24)).alloc (.cells #[.int .i64 0, .int .i64 0, .slice none 0 0] 27) = w1 := ⟨_, rfl⟩
  have hx1 : Ext w w1 := by rw [← hw1]; exact ((Ext.refl w).alloc _).alloc _
  have hB1 : w1.heap[z]? = some (.cells #[.slice A n1 c, .slice A' n2 c', .int .i64 br, .int .i64 tb] 24 (0, 0)) := by
    rw [← hw1, ← hz, heap_alloc_old _ _ _ (by simp)]; exact heap_alloc_new _ _
  have hB2 : w1.heap[z + 1]? = some (.cells #[.int .i64 0, .int .i64 0, .slice none 0 0] 27 (0, 0)) := by
    rw [← hw1, ← hz]; exact heap_alloc_at _ _ _ _ (by simp)
  have HX1 := Lib.hid hx1
  have HB1 := Lib.hid hB1
  have HB2 := Lib.hid hB2
  have HZ := Lib.hid hz
  have HZW := Lib.hid (show z + 1 < w1.heap.size from lt_of_block hB2)
  clear hx1 hB1 hB2
  go_enter Tryz.func16, Tryz.ntmps16
  go_upto_region 1 with (fail)
  clear hw1 hz
  have a0 := cell_of HB1.out (i := 0) (u := .slice A n1 c) rfl
  go_wp2_with (first | (go_at_call 39; refine (HG.out _ HX1.out).mono ?_; rintro e w2 ⟨b, B, N, cB, rfl, hok, hnc, hr, hx2⟩; have HOK := Lib.hid hok; have HNC := Lib.hid hnc; have HR := Lib.hid hr; have HX2 := Lib.hid hx2; clear hok hnc hr hx2))
  obtain ⟨g, hg⟩ : ∃ g, w2.heap.size = g := ⟨_, rfl⟩
  obtain ⟨w3, hw3⟩ : ∃ w3, w2.alloc (.cells #[.int .i64 b.ms, .int .i64 b.ht, .slice B N cB] 27) = w3 := ⟨_, rfl⟩
  have hx23 : Ext w2 w3 := by rw [← hw3]; exact (Ext.refl w2).alloc _
  have hB3 : w3.heap[g]? = some (.cells #[.int .i64 b.ms, .int .i64 b.ht, .slice B N cB] 27 (0, 0)) := by rw [← hw3, ← hg]; exact heap_alloc_new _ _
  rw [hg, hw3]
  have hx13 : Ext w1 w3 := HX2.out.trans hx23
  have hl1 := lt_of_block HB1.out
  have HQ := Lib.hid (fun X (hX : Ext w3 X) => (show X.cell? ⟨z, 1, none⟩ = some (.slice A' n2 c') ∧ X.cell? ⟨g, 0, none⟩ = some (.int .i64 b.ms) ∧ X.cell? ⟨g, 1, none⟩ = some (.int .i64 b.ht) ∧ X.cell? ⟨g, 2, none⟩ = some (.slice B N cB) from
    have h9 := (hX.block _ (lt_of_block hB3)).trans hB3
    have h8 := ((hx13.trans hX).block _ hl1).trans HB1.out
    ⟨cell_of h8 (i := 1) rfl, cell_of h9 (i := 0) rfl, cell_of h9 (i := 1) rfl, cell_of h9 (i := 2) rfl⟩))
  have HBX := Lib.hid (fun X (hX : Ext w3 X) => (show X.heap[z + 1]? = some (.cells #[.int .i64 0, .int .i64 0, .slice none 0 0] 27 (0, 0)) from ((hx13.trans hX).block _ (lt_of_block HB2.out)).trans HB2.out))
  have HSE := Lib.hid (HS.out _ ((HX1.out.trans hx13).trans (Ext.refl w3).drew) _ b B N cB HOK.out.okB (Lay.row_ext HR.out (hx23.trans (Ext.refl w3).drew)))
  have HX23 := Lib.hid hx23
  have HX13 := Lib.hid hx13
  have HG2 := Lib.hid (show w1.heap.size ≤ g by rw [← hg]; exact HX2.out.lt)
  clear hx23 hB3 hw3 hg hx13 hl1 a0
  go_upto_region 2 with (fail)
  have hS0 : (fun X : World => X.cell? ⟨z, 1, none⟩ = some (.slice A' n2 c') ∧ X.cell? ⟨g, 0, none⟩ = some (.int .i64 b.ms) ∧ X.cell? ⟨g, 1, none⟩ = some (.int .i64 b.ht) ∧ X.cell? ⟨g, 2, none⟩ = some (.slice B N cB)) w3.drew := HQ.out _ (Ext.refl _).drew
  refine wp_region_E (fun X : World => X.cell? ⟨z, 1, none⟩ = some (.slice A' n2 c') ∧ X.cell? ⟨g, 0, none⟩ = some (.int .i64 b.ms) ∧ X.cell? ⟨g, 1, none⟩ = some (.int .i64 b.ht) ∧ X.cell? ⟨g, 2, none⟩ = some (.slice B N cB)) (fun _ => True) (fun i => i == 99) (by kernel_rfl) ?_
  refine wpE_takeS (i := 0) (d := some 8) (v := .agg #[.int .i64 b.ms, .int .i64 b.ht, .slice B N cB]) rfl rfl (by kernel_rfl) (by kernel_rfl) (by kernel_rfl) (by kernel_rfl) (fun _ _ _ h => h) (by rfl) ?hya1 hS0 trivial ?goa1
  case hya1 =>
    intro w9 hT9
    obtain ⟨y0, y1, y2, y3⟩ := hT9; go_simp
  (try simp only [Act.put, List.setIfInBounds_toArray, List.set_cons_zero, List.set_cons_succ])
  refine wpE_takeS (i := 1) (d := some 9) (v := .pointer (some ⟨z, 1, none⟩)) rfl rfl (by kernel_rfl) (by kernel_rfl) (by kernel_rfl) (by kernel_rfl) (fun _ _ _ h => h) (by rfl) ?hya2 hS0 trivial ?goa2
  case hya2 =>
    intro w9 hT9
    clear hT9; go_simp
  (try simp only [Act.put, List.setIfInBounds_toArray, List.set_cons_zero, List.set_cons_succ])
  refine wpE_takeS (i := 2) (d := some 10) (v := .slice A' n2 c') rfl rfl (by kernel_rfl) (by kernel_rfl) (by kernel_rfl) (by kernel_rfl) (fun _ _ _ h => h) (by rfl) ?hya3 hS0 trivial ?goa3
  case hya3 =>
    intro w9 hT9
    obtain ⟨y0, y1, y2, y3⟩ := hT9; go_simp
  (try simp only [Act.put, List.setIfInBounds_toArray, List.set_cons_zero, List.set_cons_succ])
  refine wpE_takeS (i := 3) (d := some 11) (v := .agg #[.int .i64 b.ms, .int .i64 b.ht, .slice B N cB]) rfl rfl (by kernel_rfl) (by kernel_rfl) (by kernel_rfl) (by kernel_rfl) (fun _ _ _ h => h) (by rfl) ?hya4 hS0 trivial ?goa4
  case hya4 =>
    intro w9 hT9
    obtain ⟨y0, y1, y2, y3⟩ := hT9; go_simp
  (try simp only [Act.put, List.setIfInBounds_toArray, List.set_cons_zero, List.set_cons_succ])
  refine wpE_all (rs := [4]) (by kernel_rfl) (by simp) ?_
  refine AllE.cons rfl (fun K hK => ?_) AllE.nil
  simp only [List.getElem_toArray, List.getElem_cons_succ, List.getElem_cons_zero]
  go_simp
  go_at_call 54
  refine (HSE.out).mono ?_
  rintro z9 w4 ⟨A1, m1, c1, ls, rfl, hc1, hrs, hls, hgs, hx4⟩
  have hx34 : Ext w3 w4 := (Ext.refl w3).drew.trans hx4
  simp only []
  refine hK.out _ _ ⟨fun _ => (HQ.out _ hx34), trivial⟩ (fun _ => ?_)
  clear hK K
  have hS0 := (HQ.out _ hx34)
  (try simp only [Act.put, List.setIfInBounds_toArray, List.set_cons_zero, List.set_cons_succ])
  have HBB := Lib.hid (HBX.out _ hx34)
  have hsw : (fun X : World => X.cell? ⟨z, 1, none⟩ = some (.slice A' n2 c') ∧ X.cell? ⟨g, 0, none⟩ = some (.int .i64 b.ms) ∧ X.cell? ⟨g, 1, none⟩ = some (.int .i64 b.ht) ∧ X.cell? ⟨g, 2, none⟩ = some (.slice B N cB)) (((w4.setCell ⟨z + 1, 0, none⟩ (.int .i64 b.ms)).setCell ⟨z + 1, 1, none⟩ (.int .i64 b.ht)).setCell ⟨z + 1, 2, none⟩ (.slice B N cB)) := by
    have hgz : g ≠ z + 1 := by have := HG2.out; have := HZW.out; omega
    have o := fun (bb oo : Nat) (u : Value) (hne : bb ≠ z + 1) (h : w4.cell? ⟨bb, oo, none⟩ = some u) => (show (((w4.setCell ⟨z + 1, 0, none⟩ (.int .i64 b.ms)).setCell ⟨z + 1, 1, none⟩ (.int .i64 b.ht)).setCell ⟨z + 1, 2, none⟩ (.slice B N cB)).cell? ⟨bb, oo, none⟩ = some u from
      (World.cell?_setCell_other _ _ _ _ (by intro e; injection e with e; omega)).trans ((World.cell?_setCell_other _ _ _ _ (by intro e; injection e with e; omega)).trans ((World.cell?_setCell_other _ _ _ _ (by intro e; injection e with e; omega)).trans h)))
    obtain ⟨y0, y1, y2, y3⟩ := HQ.out _ hx34
    exact ⟨o _ _ _ (by omega) y0, o _ _ _ hgz y1, o _ _ _ hgz y2, o _ _ _ hgz y3⟩
  have f0 := frozen_of HBB.out 0
  have f1 := frozen_of HBB.out 1
  have f2 := frozen_of HBB.out 2
  have v0 := cell_of HBB.out (i := 0) (u := .int .i64 0) rfl
  have v1 := cell_of HBB.out (i := 1) (u := .int .i64 0) rfl
  have v2 := cell_of HBB.out (i := 2) (u := .slice none 0 0) rfl
  refine wpE_all (rs := [5]) (by kernel_rfl) (by simp) ?_
  refine AllE.cons rfl (fun K hK => ?_) AllE.nil
  simp only [List.getElem_toArray, List.getElem_cons_succ, List.getElem_cons_zero]
  go_simp
  refine hK.out _ _ ⟨fun _ => hsw, trivial⟩ (fun _ => ?_)
  clear hK K
  (try simp only [Act.put, List.setIfInBounds_toArray, List.set_cons_zero, List.set_cons_succ])
  clear f0 f1 f2 v0 v1 v2
  refine wpE_all (rs := [6]) (by kernel_rfl) (by simp) ?_
  refine AllE.cons rfl (fun K hK => ?_) AllE.nil
  simp only [List.getElem_toArray, List.getElem_cons_succ, List.getElem_cons_zero]
  go_simp
  refine hK.out _ _ ⟨fun _ => hsw, trivial⟩ (fun _ => ?_)
  clear hK K
  (try simp only [Act.put, List.setIfInBounds_toArray, List.set_cons_zero, List.set_cons_succ])
  refine wpE_done (by kernel_rfl) ?_ _
  go_wp2_with fail
  have hs := st3 HBB.out (.int .i64 b.ms) (.int .i64 b.ht) (.slice B N cB)
  have q0 := cell_of hs (i := 0) rfl
  have q1 := cell_of hs (i := 1) rfl
  have q2 := cell_of hs (i := 2) rfl
  refine bodyPost_ret (v := .tuple #[.agg #[.int .i64 b.ms, .int .i64 b.ht, .slice B N cB], .slice A1 m1 c1]) (by simp [results, Tryz.results16, go_sem, q0, q1, q2]) rfl ?_
  have hk9 : ∀ j, w1.heap.size ≤ j → ((((w4.setCell ⟨z + 1, 0, none⟩ (.int .i64 b.ms)).setCell ⟨z + 1, 1, none⟩ (.int .i64 b.ht)).setCell ⟨z + 1, 2, none⟩ (.slice B N cB)).heap[j]? = w4.heap[j]?) := fun j hj => by
    have hz9 : j ≠ z + 1 := by have := HZW.out; omega
    exact (heap_setCell_other _ ⟨z + 1, 2, none⟩ j _ hz9).trans ((heap_setCell_other _ ⟨z + 1, 1, none⟩ j _ hz9).trans (heap_setCell_other _ ⟨z + 1, 0, none⟩ j _ hz9))
  refine ⟨b, B, N, cB, A1, m1, c1, ls, rfl, HOK.out, HNC.out, ?_, hc1, ?_, hls, hgs, ext3 (HX1.out.trans (HX13.out.trans hx34)) (by have := HZ.out; omega) _ _ _⟩
  · exact Lay.row_mono (Lay.row_keep (Lay.row_ext HR.out (HX23.out.trans hx34)) (by simp) fun j hj _ => hk9 j hj) fun _ _ _ => trivial
  · refine Lay.row_mono (Lay.row_keep hrs (by simp) fun j hj _ => hk9 j ?_) fun _ _ _ => trivial
    have h8 : w3.heap.size ≤ j := hj
    have := HX13.out.lt
    omega
end
section
open Go Go.RowKit
attribute [local go_sem] Oper.semAt_some

theorem dnCat (w : World) (m x k : Nat) : (w.drewN (m + x)).drewN k = w.drewN (m + (x + k)) := by simp [World.drewN, Nat.add_assoc]
def kIt : Lay (List UInt8 × List Ct) := kStr.pair kCt.list
theorem it_at {W : World} {P : Nat → Prop} {A : Option Addr} {n : Nat} {xs : Tb} (h : kIt.row W P A n xs) {i : Nat} {x : List UInt8 × List Ct} (hi : xs[i]? = some x) :
    ∃ b off A2 n2 c2, A = some ⟨b, off, none⟩ ∧ b < W.heap.size ∧ W.cell? ⟨b, off + i * 2, none⟩ = some (.string ⟨x.1.toArray⟩) ∧ W.cell? ⟨b, off + i * 2 + 1, none⟩ = some (.slice A2 n2 c2) ∧ n2 ≤ c2 ∧ kCt.row W P A2 n2 x.2 := by
  obtain ⟨b, off, cs, rfl, hb, _, ⟨ca, cb, rfl, h1, A2, n2, c2, rfl, h2, h3⟩, hc⟩ := Lay.row_at h hi
  have h1' : ca = [.string ⟨x.1.toArray⟩] := h1
  subst h1'
  exact ⟨b, off, A2, n2, c2, rfl, hb, hc 0 _ rfl, hc 1 _ rfl, h2, h3⟩
def SbR (w : World) (n : Nat) (xs ys : Tb) (s5 : Value) (W : World) : Prop := ∃ i : Nat, i ≤ n ∧ s5 = .int .i64 i ∧ xs.take i = ys.take i ∧ ∃ q, W = w.drewN q
set_option maxHeartbeats 4000000 in
set_option maxRecDepth 100000 in
theorem same_any (P Q : Nat → Prop) (w : World) (xs ys : Tb) (hx9 : ∀ x ∈ xs ++ ys, x.2.length ≤ 100000000) (A A' : Option Addr) (n n' c c' : Nat) (h : kIt.row w P A n xs) (h' : kIt.row w Q A' n' ys) (hn : n ≤ 100000000) (hn' : n' ≤ 100000000) :
    Calls Tryz.prog 18 #[.slice A n c, .slice A' n' c'] w fun e w' => e = .returned (.bool (decide (xs = ys))) ∧ ∃ q, w' = w.drewN q := by
  have HL := Lib.hid (Lay.row_len h)
  have HL' := Lib.hid (Lay.row_len h')
  have HR := Lib.hid h
  have HR' := Lib.hid h'
  obtain ⟨r, hr⟩ : ∃ r, decide (xs = ys) = r := ⟨_, rfl⟩
  rw [hr]
  have HV := Lib.hid hr
  clear h h' hr
  by_cases hne : n = n'
  case neg =>
    have d : ((n : Int) != (n' : Int)) = true := by simp; omega
    have hF : r = false := by rw [← HV.out]; exact decide_eq_false fun e => hne (by rw [HL.out, HL'.out, e])
    subst hF
    go_enter Tryz.func18, Tryz.ntmps18
    go_wp2_with fail
    go_ret
    exact ⟨rfl, 0, rfl⟩
  subst hne
  go_enter Tryz.func18, Tryz.ntmps18
  go_wp2_with fail
  go_loopw [5] (fun s5 W => SbR w n xs ys s5 W) (fun s5 _ => toM n s5)
  case atStart => exact ⟨0, by omega, rfl, rfl, 0, rfl⟩
  case round =>
    obtain ⟨i, hi, rfl, hp, q, rfl⟩ := hrel
    have HP := Lib.hid hp
    clear hp
    by_cases hlt : i < n
    case neg =>
      obtain rfl : i = n := by omega
      have hni : ¬ ((i : Int) < (i : Int)) := by omega
      have hF : r = true := by
        rw [← HV.out]
        have := HP.out
        rw [HL.out, List.take_length] at this
        rw [← HL.out, HL'.out, List.take_length] at this
        exact decide_eq_true this
      subst hF
      go_wp2_with fail
      go_ret
      exact ⟨rfl, q, rfl⟩
    have hI : (i : Int) < (n : Int) := by omega
    obtain ⟨x, hx⟩ : ∃ x, xs[i]? = some x := ⟨_, List.getElem?_eq_getElem (by have := HL.out; omega)⟩
    obtain ⟨y, hy⟩ : ∃ y, ys[i]? = some y := ⟨_, List.getElem?_eq_getElem (by have := HL'.out; omega)⟩
    obtain ⟨b, off, A2, n2, c2, rfl, _, a0, a1, _, ra⟩ := it_at HR.out hx
    obtain ⟨b', off', A3, n3, c3, rfl, _, b0, b1, _, rb⟩ := it_at HR'.out hy
    have hx1 := hx9 x (List.mem_append_left _ (List.mem_of_getElem? hx))
    have hy1 := hx9 y (List.mem_append_right _ (List.mem_of_getElem? hy))
    have l2 := Lay.row_len ra
    have l3 := Lay.row_len rb
    have HX := Lib.hid hx
    have HY := Lib.hid hy
    clear hx hy
    have HS := Lib.hid (fun q => samec_any P Q (w.drewN q) x.2 y.2 A2 A3 n2 n3 c2 c3 ra rb (by omega) (by omega))
    clear ra rb l2 l3 hx1 hy1
    obtain ⟨xk, xl⟩ := x
    obtain ⟨yk, yl⟩ := y
    simp only at a0 a1 b0 b1 HS
    by_cases hk : xk = yk
    · subst hk
      by_cases hl : xl = yl
      · subst hl
        rw [show decide (xl = xl) = true from decide_eq_true rfl] at HS
        go_upto_region 6 with (fail)
        go_quiet (first | (go_at_call 27; refine (HS.out _).mono ?_; rintro e w1 ⟨rfl, k, rfl⟩; exact ⟨rfl, _, dnCat _ _ _ _⟩))
        go_wp2_with fail
        go_roundw
        case rel => exact ⟨i + 1, by omega, by go_num, take_eq HP.out HX.out HY.out rfl, _, rfl⟩
        case measure => simp only [toM]; omega
      · rw [decide_eq_false hl] at HS
        have hF : r = false := by
          rw [← HV.out]
          exact decide_eq_false fun e => hl (by have h9 := HX.out; rw [e, HY.out] at h9; injection h9 with h9; injection h9 with _ h9; exact h9.symm)
        subst hF
        clear hl
        go_upto_region 6 with (fail)
        go_quiet (first | (go_at_call 27; refine (HS.out _).mono ?_; rintro e w1 ⟨rfl, k, rfl⟩; exact ⟨rfl, _, dnCat _ _ _ _⟩))
        go_wp2_with fail
        go_ret
        exact ⟨rfl, q + nq, by simp [World.drewN, Nat.add_assoc]⟩
    · have d1 : (xk == yk) = false := by simpa using hk
      have hF : r = false := by
        rw [← HV.out]
        exact decide_eq_false fun e => hk (by have h9 := HX.out; rw [e, HY.out] at h9; injection h9 with h9; injection h9 with h9 _; exact h9.symm)
      subst hF
      clear hk
      go_upto_region 6 with (fail)
      go_quiet (fail)
      go_wp2_with fail
      go_ret
      exact ⟨rfl, q + nq, by simp [World.drewN, Nat.add_assoc]⟩
end
section
open Go Go.RowKit
attribute [local go_sem] Oper.semAt_some

theorem kIt_rep {W : World} {P : Nat → Prop} {x : List UInt8 × List Ct} {cs : List Value} : kIt.rep W P x cs ↔ ∃ A n c, cs = [.string ⟨x.1.toArray⟩, .slice A n c] ∧ n ≤ c ∧ kCt.row W P A n x.2 := by
  constructor
  · rintro ⟨_, _, rfl, rfl, A, n, c, rfl, h1, h2⟩; exact ⟨A, n, c, rfl, h1, h2⟩
  · rintro ⟨A, n, c, rfl, h1, h2⟩; exact ⟨_, _, rfl, rfl, A, n, c, rfl, h1, h2⟩
theorem kIt_sz : kIt.sz = 2 := rfl
end
section
open Go Go.RowKit
attribute [local go_sem] Oper.semAt_some

/-- A table in memory, with at most M places. -/
structure TbV (W : World) (A : Option Addr) (n c : Nat) (T : Tb) (M : Nat) : Prop where
  row : kIt.row W (fun _ => True) A n T
  nc : n ≤ c
  reg : Reg T
  len : (prs T).length ≤ M
  key : ∀ x ∈ T, x.1.length ≤ 1000
theorem TbV.ext {W W' : World} {A : Option Addr} {n c : Nat} {T : Tb} {M : Nat} (h : TbV W A n c T M) (hx : Ext W W') : TbV W' A n c T M := ⟨Lay.row_ext h.row hx, h.nc, h.reg, h.len, h.key⟩
theorem TbV.n {W : World} {A : Option Addr} {n c : Nat} {T : Tb} {M : Nat} (h : TbV W A n c T M) : n = T.length ∧ n ≤ M ∧ ∀ x ∈ T, x.2.length ≤ M := by
  have h1 := Lay.row_len h.row
  have h2 := prs_le h.reg.some
  have h3 := h.len
  exact ⟨h1, by omega, fun x hx => Nat.le_trans (prs_mem_le hx) h.len⟩
theorem TbV.nil (W : World) (M : Nat) : TbV W none 0 0 [] M := ⟨Lay.row_nil _ _ _, Nat.le_refl _, reg_nil, Nat.zero_le _, fun x hx => by cases hx⟩
theorem TbV.mono {W : World} {A : Option Addr} {n c : Nat} {T : Tb} {M M' : Nat} (h : TbV W A n c T M) (hm : M ≤ M') : TbV W A n c T M' := ⟨h.row, h.nc, h.reg, Nat.le_trans h.len hm, h.key⟩
end
section
open Go Go.RowKit
attribute [local go_sem] Oper.semAt_some

theorem own_empty {β : Type} {k : Lay β} {e : TypeId} {X : World} {base : Nat} {P : Nat → Prop} (hb : base ≤ X.heap.size) : k.own e (X.alloc (.cells #[] e)) base P (.slice (some ⟨X.heap.size, 0, none⟩) 0 0) [] :=
  ⟨[], ⟨by simp [gcells], .inr ⟨X.heap.size, 0, #[], rfl, hb, heap_alloc_new X _, Nat.le_refl _, by simp [maxLen], by simp, by simp [gcells]⟩⟩, rfl, fun i d x hd => by simp at hd⟩
/-- A copy of places behind an empty slice. -/
theorem cp_ct {P : Nat → Prop} {w X : World} {A : Option Addr} {n c : Nat} {l : List Ct} (hr : kCt.row w P A n l) (hX : Ext w X) (hn : n ≤ 40000000) :
    ∃ A' c' w', (Builtin.append_ #[38, 38] 38 #[.slice (some ⟨X.heap.size, 0, none⟩) 0 0, .slice A n c]).run Tryz.prog (X.alloc (.cells #[] 69)) = .ok (.slice A' n c') w' ∧ n ≤ c' ∧ kCt.row w' (fun j => P j ∨ w.heap.size ≤ j) A' n l ∧ Ext w w' := by
  obtain ⟨A', c', w', r, o, hx⟩ := own_app (k := kCt) (Pr := Tryz.prog) (t := 38) (e := 69) Tryz.underlying38 info69 rfl (by decide) (by omega) (own_empty (P := P) (Nat.le_trans hX.lt (Nat.le_refl _))) (hX.alloc _) hr c (by simp; omega)
  simp only [List.length_nil, Nat.zero_add, List.nil_append] at r o
  obtain ⟨h1, h2⟩ := own_rowQ o
  exact ⟨A', c', w', r, h1, h2, hx⟩
theorem findP_take {T : Tb} {k : List UInt8} {i : Nat} {y : List UInt8 × List Ct} (h : ∀ y ∈ T.take i, y.1 ≠ k) (hy : T[i]? = some y) (hk : y.1 = k) : findP T k = some y.2 := by
  unfold findP
  have : T.find? (fun x => x.1 == k) = some y := by
    obtain ⟨hi, rfl⟩ := List.getElem?_eq_some_iff.1 hy
    conv => lhs; rw [← List.take_append_drop i T, List.drop_eq_getElem_cons hi]
    rw [List.find?_append, List.find?_eq_none.2 (fun x hx => by simpa using h x hx), Option.none_or, List.find?_cons, show (T[i].1 == k) = true by simpa using hk]
  rw [this]; rfl
theorem find_nope {T : Tb} {k : List UInt8} (h : ∀ y ∈ T, y.1 ≠ k) : findP T k = none := by
  unfold findP
  rw [List.find?_eq_none.2 (fun x hx => by simpa using h x hx)]; rfl
/-- What both ways of finding a key give. -/
def FindGet (w : World) (T : Tb) (k : List UInt8) (e : Ending) (w' : World) : Prop := ∃ A n c, e = .returned (.tuple #[.slice A n c, .bool (findP T k).isSome]) ∧ n ≤ c ∧ kCt.row w' (fun _ => True) A n (plc T k) ∧ Ext w w'
theorem FindGet.no {w w' : World} {T : Tb} {k : List UInt8} (h : findP T k = none) (hx : Ext w w') : FindGet w T k (.returned (.tuple #[.slice none 0 0, .bool false])) w' := by
  refine ⟨none, 0, 0, by rw [h]; rfl, Nat.le_refl _, ?_, hx⟩
  unfold plc; rw [h]; exact Lay.row_nil _ _ _
theorem FindGet.yes {w w' : World} {T : Tb} {k : List UInt8} {l : List Ct} {A : Option Addr} {n c : Nat} (h : findP T k = some l) (hc : n ≤ c) {P : Nat → Prop} (hr : kCt.row w' P A n l) (hx : Ext w w') : FindGet w T k (.returned (.tuple #[.slice A n c, .bool true])) w' := by
  refine ⟨A, n, c, by rw [h]; rfl, hc, ?_, hx⟩
  unfold plc; rw [h]; exact Lay.row_mono hr fun _ _ _ => trivial
/-- slices.Clone of places. -/
theorem clone_ct (P : Nat → Prop) (w : World) (A : Option Addr) (n c : Nat) (l : List Ct) (h : kCt.row w P A n l) (hn : n ≤ 40000000) :
    Calls Tryz.prog 69 #[.slice A n c] w fun e w' => ∃ A' c', e = .returned (.slice A' n c') ∧ n ≤ c' ∧ kCt.row w' (fun j => P j ∨ w.heap.size ≤ j) A' n l ∧ Ext w w' := by
  have q38 := fun (w : World) (a : Option Addr) (n c n' c' : Nat) => Lib.run_eql_slice_nil (P := Tryz.prog) w _ _ a n c n' c' Tryz.underlying38
  cases A with
  | none =>
    obtain rfl := row_A h rfl
    have hl := List.eq_nil_of_length_eq_zero (Lay.row_len h).symm
    subst hl
    go_enter Tryz.func69, Tryz.ntmps69
    go_wp2_with fail
    go_ret
    exact ⟨none, 0, rfl, Nat.le_refl _, Lay.row_nil _ _ _, Ext.refl _⟩
  | some a =>
    obtain ⟨A', c', w', r, hc', hr', hx'⟩ := cp_ct (c := c) h (Ext.refl w) hn
    have RUN := Lib.hid r
    have HR' := Lib.hid hr'
    have HX' := Lib.hid hx'
    clear h r hr' hx'
    go_enter Tryz.func69, Tryz.ntmps69
    go_wp2_with (first | (at_builtin; refine wpList_append_run (s := .tmp 5) (x := .tmp 6) RUN.out rfl rfl rfl rfl rfl ?_))
    go_ret
    exact ⟨A', c', rfl, hc', HR'.out, HX'.out⟩
set_option maxRecDepth 100000 in
theorem fcmp_any (a b : List UInt8) (u : Value) (w : World) : Calls Tryz.prog 67 #[.agg #[.string ⟨a.toArray⟩, u], .string ⟨b.toArray⟩] w fun e w' => e = .returned (.int .i64 (Lib.compareBytes a b)) ∧ Ext w w' := by
  have HC := Lib.hid (fun W => strcmp_any a b W)
  generalize Lib.compareBytes a b = r at HC ⊢
  have HX := Lib.hid ((Ext.refl w).alloc (.cells #[.string ⟨a.toArray⟩, u] 99))
  go_enter Tryz.func67, Tryz.ntmps67
  go_wp2_with (go_at_call 68; refine (HC.out _).mono ?_; rintro e w9 ⟨rfl, rfl⟩)
  go_ret
  exact ⟨rfl, HX.out⟩
theorem bs_find {T : Tb} (hT : Reg T) {k : List UInt8} {i : Nat} (h1 : ∀ y ∈ T.take i, sLt y.1 k = true) (h2 : ∀ y ∈ T.drop i, sLt y.1 k = false) : findP T k = match T[i]? with | some y => if y.1 = k then some y.2 else none | none => none := by
  cases hy : T[i]? with
  | none =>
    have : ∀ y ∈ T, y.1 ≠ k := fun y hm => sLt_ne (h1 y (by rw [List.take_of_length_le (by rw [List.getElem?_eq_none_iff] at hy; exact hy)]; exact hm))
    exact find_nope this
  | some y =>
    simp only
    split
    · next e => exact findP_take (fun y hm => sLt_ne (h1 y hm)) hy e
    · next e =>
      refine find_nope fun y' hm => ?_
      rw [← List.take_append_drop i T] at hm
      rcases List.mem_append.1 hm with hm | hm
      · exact sLt_ne (h1 y' hm)
      · obtain ⟨hi, rfl⟩ := List.getElem?_eq_some_iff.1 hy
        have hd : T.drop i = T[i] :: T.drop (i + 1) := List.drop_eq_getElem_cons hi
        have hpw := hT.keys
        rw [← List.take_append_drop i T, List.pairwise_append, hd, List.pairwise_cons] at hpw
        have h3 := h2 T[i] (by rw [hd]; exact .head _)
        rw [hd] at hm
        rcases List.mem_cons.1 hm with rfl | hm
        · exact e
        · intro e2
          have := hpw.2.1.1 y' hm
          rw [e2, h3] at this
          cases this
theorem bs_lt {T : Tb} (hT : Reg T) {k : List UInt8} {h : Nat} {y : List UInt8 × List Ct} (hy : T[h]? = some y) (hs : sLt y.1 k = true) : ∀ y' ∈ T.take (h + 1), sLt y'.1 k = true := by
  obtain ⟨hi, rfl⟩ := List.getElem?_eq_some_iff.1 hy
  intro y' hm
  obtain ⟨j, hj⟩ := List.getElem?_of_mem hm
  rw [List.getElem?_take] at hj
  split at hj
  · next hjh =>
    obtain ⟨hj1, rfl⟩ := List.getElem?_eq_some_iff.1 hj
    rcases Nat.lt_or_ge j h with h9 | h9
    · exact sLt_trans (List.pairwise_iff_getElem.1 hT.keys j h hj1 hi h9) hs
    · obtain rfl : j = h := by omega
      exact hs
  · cases hj
theorem bs_ge {T : Tb} (hT : Reg T) {k : List UInt8} {h : Nat} {y : List UInt8 × List Ct} (hy : T[h]? = some y) (hs : sLt y.1 k = false) : ∀ y' ∈ T.drop h, sLt y'.1 k = false := by
  obtain ⟨hi, rfl⟩ := List.getElem?_eq_some_iff.1 hy
  intro y' hm
  obtain ⟨j, hj⟩ := List.getElem?_of_mem hm
  rw [List.getElem?_drop] at hj
  obtain ⟨hj1, rfl⟩ := List.getElem?_eq_some_iff.1 hj
  rcases Nat.eq_zero_or_pos j with h9 | h9
  · subst h9; exact hs
  · cases h8 : sLt T[h + j].1 k with
    | false => rfl
    | true => rw [sLt_trans (List.pairwise_iff_getElem.1 hT.keys h (h + j) hi hj1 (by omega)) h8] at hs; cases hs
def BsR (w : World) (T : Tb) (k : List UInt8) (s9 s10 : Value) (W : World) : Prop := ∃ i j : Nat, i ≤ j ∧ j ≤ T.length ∧ s9 = .int .i64 i ∧ s10 = .int .i64 j ∧ (∀ y ∈ T.take i, sLt y.1 k = true) ∧ (∀ y ∈ T.drop j, sLt y.1 k = false) ∧ Ext w W
def bsM (s9 s10 : Value) : Nat := match s9, s10 with | .int _ a, .int _ b => (b - a).toNat | _, _ => 0
set_option maxHeartbeats 4000000 in
set_option maxRecDepth 100000 in
theorem bsearch_any (w : World) (T : Tb) (k : List UInt8) (A : Option Addr) (n c M : Nat) (h : TbV w A n c T M) (hM : M ≤ 40000000) :
    Calls Tryz.prog 66 #[.slice A n c, .string ⟨k.toArray⟩, .func (.func 67) #[] #[]] w fun e w' => ∃ i : Nat, e = .returned (.tuple #[.int .i64 i, .bool (findP T k).isSome]) ∧ (∀ l, findP T k = some l → ∃ y, T[i]? = some y ∧ y.2 = l) ∧ Ext w w' := by
  have HR := Lib.hid h.row
  obtain ⟨hn, hnM, hlm⟩ := h.n
  have HL := Lib.hid hn
  have HREG := Lib.hid h.reg
  have HCP := Lib.hid (fun a u W => fcmp_any a k u W)
  clear h hn hlm
  go_enter Tryz.func66, Tryz.ntmps66
  go_wp2_with fail
  go_loopw [9, 10] (fun s9 s10 W => BsR w T k s9 s10 W) (fun s9 s10 _ => bsM s9 s10)
  case atStart => exact ⟨0, n, by omega, by rw [HL.out]; exact Nat.le_refl _, rfl, rfl, by simp, by rw [HL.out, List.drop_length]; simp, Ext.refl _⟩
  case round =>
    obtain ⟨i, j, hij, hj, rfl, rfl, hp, hq, hx⟩ := hrel
    rw [← HL.out] at hj
    have HP := Lib.hid hp
    have HQ := Lib.hid hq
    have HX := Lib.hid hx
    clear hp hq hx
    by_cases hlt : i < j
    case neg =>
      obtain rfl : i = j := by omega
      have hni : ¬ ((i : Int) < (i : Int)) := by omega
      have HF := Lib.hid (bs_find HREG.out HP.out HQ.out)
      by_cases hin : i < n
      · obtain ⟨y, hy⟩ : ∃ y, T[i]? = some y := ⟨_, List.getElem?_eq_getElem (by have := HL.out; omega)⟩
        obtain ⟨b, off, A2, n2, c2, rfl, hb, a0, a1, _, _⟩ := it_at (Lay.row_ext HR.out HX.out) hy
        have HY := Lib.hid hy
        have hinI : (i : Int) < (n : Int) := by omega
        have HCY := Lib.hid (fun W => HCP.out y.1 (.slice A2 n2 c2) W)
        rw [hy] at HF
        clear hy
        by_cases hk : y.1 = k
        · have h0 : Lib.compareBytes y.1 k = 0 := (cmpB_eq _ _).2 hk
          have HF' := Lib.hid (HF.out.trans (if_pos hk))
          rw [h0] at HCY
          clear hk h0
          go_wp2_with (first | (go_at_call 67; refine (HCY.out _).mono ?_; rintro e w2 ⟨rfl, hx2⟩; have HX2 := Lib.hid hx2; clear hx2))
          refine bodyPost_ret (v := .tuple #[.int .i64 (i : Int), .bool true]) (by simp [results, Tryz.results66, go_sem]) rfl ?_
          exact ⟨i, by rw [HF'.out]; rfl, fun l hl => ⟨y, HY.out, by rw [HF'.out] at hl; exact Option.some.inj hl⟩, HX.out.trans HX2.out⟩
        · have h0 : Lib.compareBytes y.1 k ≠ 0 := fun e => hk ((cmpB_eq _ _).1 e)
          have HF' := Lib.hid (HF.out.trans (if_neg hk))
          generalize Lib.compareBytes y.1 k = r at HCY h0
          have h00 : (r == 0) = false := by simpa using h0
          clear hk h0
          go_wp2_with (first | (go_at_call 67; refine (HCY.out _).mono ?_; rintro e w2 ⟨rfl, hx2⟩; have HX2 := Lib.hid hx2; clear hx2))
          refine bodyPost_ret (v := .tuple #[.int .i64 (i : Int), .bool false]) (by simp [results, Tryz.results66, go_sem]) rfl ?_
          exact ⟨i, by rw [HF'.out]; rfl, fun l hl => (by rw [HF'.out] at hl; cases hl), HX.out.trans HX2.out⟩
      · have hinI : ¬ ((i : Int) < (n : Int)) := by omega
        have hinb : decide ((i : Int) < (n : Int)) = false := decide_eq_false hinI
        have HF' := Lib.hid (show findP T k = none by have h9 := HF.out; rw [List.getElem?_eq_none (by have := HL.out; omega)] at h9; exact h9)
        go_wp2_with fail
        refine bodyPost_ret (v := .tuple #[.int .i64 (i : Int), .bool false]) (by simp [results, Tryz.results66, go_sem]) rfl ?_
        exact ⟨i, by rw [HF'.out]; rfl, fun l hl => (by rw [HF'.out] at hl; cases hl), HX.out⟩
    have hI : (i : Int) < (j : Int) := by omega
    obtain ⟨h, hh, hih, hhj⟩ : ∃ h : Nat, ((i : Int) + (j : Int)) / 2 = (h : Int) ∧ i ≤ h ∧ h < j := ⟨(i + j) / 2, by omega, by omega, by omega⟩
    obtain ⟨y, hy⟩ : ∃ y, T[h]? = some y := ⟨_, List.getElem?_eq_getElem (by have := HL.out; omega)⟩
    obtain ⟨b, off, A2, n2, c2, rfl, hb, a0, a1, _, _⟩ := it_at (Lay.row_ext HR.out HX.out) hy
    have hhI : (h : Int) < (n : Int) := by omega
    have HCY := Lib.hid (fun W => HCP.out y.1 (.slice A2 n2 c2) W)
    have HLE := Lib.hid (cmpB_lt y.1 k)
    generalize Lib.compareBytes y.1 k = r at HCY HLE
    have hw1 : IntKind.i64.wrap ((h : Int) + 1) = (h : Int) + 1 := IntWalk.i64_in _ (by omega)
    cases hs : sLt y.1 k with
    | true =>
      have hr0 : r < 0 := HLE.out.2 hs
      have HN := Lib.hid (bs_lt HREG.out hy hs)
      clear hs hy
      go_wp2_with (first | (go_at_call 67; refine (HCY.out _).mono ?_; rintro e w2 ⟨rfl, hx2⟩; have HX2 := Lib.hid hx2; clear hx2))
      go_roundw
      case rel => exact ⟨h + 1, j, by omega, by have := HL.out; omega, by go_num, rfl, HN.out, HQ.out, HX.out.trans HX2.out⟩
      case measure => simp only [bsM]; omega
    | false =>
      have hr0 : ¬ r < 0 := fun h9 => by rw [HLE.out.1 h9] at hs; cases hs
      have HN := Lib.hid (bs_ge HREG.out hy hs)
      clear hs hy
      go_wp2_with (first | (go_at_call 67; refine (HCY.out _).mono ?_; rintro e w2 ⟨rfl, hx2⟩; have HX2 := Lib.hid hx2; clear hx2))
      go_roundw
      case rel => exact ⟨i, h, hih, by have := HL.out; omega, rfl, rfl, HP.out, HN.out, HX.out.trans HX2.out⟩
      case measure => simp only [bsM]; omega
set_option maxHeartbeats 4000000 in
set_option maxRecDepth 100000 in
/-- index.Find. -/
theorem ifind_any (w : World) (T : Tb) (k : List UInt8) (A : Option Addr) (n c M : Nat) (h : TbV w A n c T M) (hM : M ≤ 40000000) : Calls Tryz.prog 23 #[.slice A n c, .string ⟨k.toArray⟩] w (FindGet w T k) := by
  have HB := Lib.hid (bsearch_any w T k A n c M h hM)
  have HR := Lib.hid h.row
  obtain ⟨hn, hnM, hlm⟩ := h.n
  have HL := Lib.hid hn
  have HM := Lib.hid hlm
  clear h hn hlm
  cases hf : findP T k with
  | none =>
    have HF := Lib.hid hf
    clear hf
    rw [HF.out] at HB
    go_enter Tryz.func23, Tryz.ntmps23
    go_wp2_with (first | (go_at_call 66; refine (HB.out).mono ?_; rintro e w2 ⟨i, rfl, _, hx2⟩; have HX2 := Lib.hid hx2; clear hx2))
    refine bodyPost_ret (v := .tuple #[.slice none 0 0, .bool false]) (by simp [results, Tryz.results23, go_sem]) rfl ?_
    exact FindGet.no HF.out HX2.out
  | some l =>
    have HF := Lib.hid hf
    clear hf
    rw [HF.out] at HB
    go_enter Tryz.func23, Tryz.ntmps23
    go_upto_region 4 with (first | (go_at_call 66; refine (HB.out).mono ?_; rintro e w2 ⟨i, rfl, hl, hx2⟩; have HX2 := Lib.hid hx2; have HLI := Lib.hid (hl l rfl); clear hl hx2))
    obtain ⟨y, hy, hyl⟩ := HLI.out
    obtain ⟨b, off, A2, n2, c2, rfl, hb, a0, a1, hnc2, hr2⟩ := it_at (Lay.row_ext HR.out HX2.out) hy
    have hin : (i : Int) < (n : Int) := by have := (List.getElem?_eq_some_iff.1 hy).1; have := HL.out; omega
    have hn2 : n2 ≤ 40000000 := by rw [Lay.row_len hr2]; exact Nat.le_trans (HM.out y (List.mem_of_getElem? hy)) hM
    rw [hyl] at hr2
    have HC := Lib.hid (clone_ct _ w2 A2 n2 c2 l hr2 hn2)
    clear hy hyl hr2
    go_wp2_with (first | (go_at_call 69; refine (HC.out).mono ?_; rintro e w3 ⟨A3, c3, rfl, hc3, hr3, hx3⟩; have HR3 := Lib.hid hr3; have HX3 := Lib.hid hx3; clear hr3 hx3))
    refine bodyPost_ret (v := .tuple #[.slice A3 n2 c3, .bool true]) (by simp [results, Tryz.results23, go_sem]) rfl ?_
    exact FindGet.yes HF.out hc3 HR3.out (HX2.out.trans HX3.out)
end
section
open Go Go.RowKit Go.Sort
attribute [local go_sem] Oper.semAt_some

theorem itCs_one (x : ItV) : ∀ u ∈ itCs x, u.oneCell' = true := fun u hu => by
  simp only [itCs, List.mem_cons, List.not_mem_nil, or_false] at hu
  rcases hu with rfl | rfl <;> rfl
/-- Items as they lie: a key and a slice. -/
def kIv : Lay ItV where
  sz := 2
  rep _ _ x cs := cs = itCs x
  len h := by subst h; rfl
  one h := by subst h; exact itCs_one _
  keep h _ _ := h
  mono h _ := h
theorem iv_cells {W : World} {B : Nat} {P : Nat → Prop} {v : Value} {xs : List ItV} (h : kIv.own 99 W B P v xs) : W.ownsRow B 99 2 v xs.length (xs.flatMap itCs) := by
  obtain ⟨ds, h1, h2, h3⟩ := h
  have e : gcells ccf ds = xs.flatMap itCs := by
    have : ∀ (ds : List (Cs kIv.sz)) (xs : List ItV), ds.length = xs.length → (∀ (i : Nat) (d : Cs kIv.sz) (x : ItV), ds[i]? = some d → xs[i]? = some x → ccf d = itCs x) → gcells ccf ds = xs.flatMap itCs := by
      intro ds
      induction ds with
      | nil => intro xs hl _; cases xs with
        | nil => rfl
        | cons x xs => simp at hl
      | cons d ds ih => intro xs hl hh; cases xs with
        | nil => simp at hl
        | cons x xs =>
          have h0 := hh 0 d x rfl rfl
          have h1 := ih xs (by simpa using hl) fun i d x hd hx => hh (i + 1) d x (by simpa using hd) (by simpa using hx)
          unfold gcells at h1 ⊢
          rw [List.flatMap_cons, List.flatMap_cons, h0, h1]
    exact this ds xs h2 fun i d x hd hx => h3 i d x hd hx
  unfold OL at h1
  rw [h2, e] at h1
  exact h1
def ivC (x : ItV) : Cs kIv.sz := ⟨itCs x, rfl, itCs_one x⟩
theorem gcells_ivC (xs : List ItV) : gcells ccf (xs.map ivC) = xs.flatMap itCs := by
  induction xs with
  | nil => rfl
  | cons x xs ih => unfold gcells at ih ⊢; rw [List.map_cons, List.flatMap_cons, List.flatMap_cons, ih]; rfl
theorem cells_iv {W : World} {B : Nat} {P : Nat → Prop} {v : Value} {xs : List ItV} (h : W.ownsRow B 99 2 v xs.length (xs.flatMap itCs)) : kIv.own 99 W B P v xs := by
  refine ⟨xs.map ivC, ?_, List.length_map _, fun i d x hd hx => ?_⟩
  · unfold OL
    rw [gcells_ivC, List.length_map]
    exact h
  · rw [List.getElem?_map, hx] at hd
    simp only [Option.map_some, Option.some.injEq] at hd
    subst hd
    rfl
instance : Inhabited ItV := ⟨⟨[], none, 0, 0⟩⟩
theorem sort_iown (w : World) (B : Nat) (v : Value) (xs : List ItV) (h : kIv.own 99 w B (fun _ => False) v xs) (hne : xs ≠ []) (hl : xs.length ≤ 100000000) :
    Calls Tryz.prog 114 #[v, .func (.func 115) #[] #[]] w fun e w' => e = .returned (.tuple #[]) ∧ ∃ ys, ys.Perm xs ∧ (ys.Pairwise fun a b => sLt b.1 a.1 = false) ∧ kIv.own 99 w' B (fun _ => False) v ys ∧ w.grownBy w' v.ownBlock := by
  have hc := iv_cells h
  rcases hc.2 with ⟨_, h0⟩ | ⟨g, cap, cur, rfl, hbase, hb, h1, h2, h3, h4⟩
  · exact absurd (List.length_eq_zero_iff.1 h0) hne
  have hk : ∀ x, (itCs x).length = 2 := fun _ => rfl
  have hg : g < w.heap.size := (Array.getElem?_eq_some_iff.1 hb).1
  have hs := sort_it g cap xs.toArray w (holdsK_block hk hb h4) hg (by simp; omega)
  rw [List.size_toArray] at hs
  refine hs.mono ?_
  rintro e w' ⟨he, d', n, os, hp, hsr, rfl⟩
  have hsz : d'.size = xs.length := by have := hp.1; simpa using this
  have hp' : d'.toList.Perm xs := by
    have := perm_all (d := xs.toArray) (d' := d') (by simpa using hp)
    simpa using this
  refine ⟨he, d'.toList, hp', ?_, ?_, ?_⟩
  · refine (sorted_all (by rw [hsz]) hsr).imp fun {a b} hab => ?_
    simp only [ltOf, decide_eq_false_iff_not, cmpB_lt] at hab
    simpa using hab
  · have h9 := ownsRow_sortedK (enc := itCs) hk (w := w) (base := B) (g := g) (cap := cap) (n := n) (os := os) (ts := d'.toList) (m := xs.length) (by simpa using hsz) hbase hb h1 h2 h3
    have e2 : d'.toList.length = xs.length := by simpa using hsz
    rw [← e2] at h9 ⊢
    exact cells_iv (by simpa using h9)
  · exact grown_sortedK d'
set_option maxHeartbeats 2000000 in
theorem ins_none (p : Option Addr) (cap : Nat) (fv : Value) (w : World) : Calls Tryz.prog 170 #[.slice p 0 cap, .int .i64 0, .int .i64 0, fv] w fun e w' => e = .returned (.tuple #[]) ∧ w' = w := by
  go_enter Tryz.func170, Tryz.ntmps170
  go_wp2
  refine wp_loop_rounds 1 ?_
  rw [rounds_succ]
  go_wp2
  go_end0
  exact ⟨rfl, rfl⟩
set_option maxHeartbeats 2000000 in
theorem pdq_none (p : Option Addr) (cap : Nat) (lim : Int) (fv : Value) (w : World) : Calls Tryz.prog 144 #[.slice p 0 cap, .int .i64 0, .int .i64 0, .int .i64 lim, fv] w fun e w' => e = .returned (.tuple #[]) ∧ w' = w := by
  have HI := Lib.hid (fun W => ins_none p cap fv W)
  go_enter Tryz.func144, Tryz.ntmps144
  go_wp2
  refine wp_loop_rounds 1 ?_
  rw [rounds_succ]
  go_wp2_with (first | (go_at_call 170; refine (HI.out _).mono ?_; rintro e w' ⟨rfl, rfl⟩))
  (try simp only [Exit.inBlock, Exit.then]); refine bodyPost_ret (results_none rfl _ _ _) rfl ?_
  exact ⟨rfl, rfl⟩
theorem sort_none (p : Option Addr) (cap : Nat) (fv : Value) (w : World) : Calls Tryz.prog 114 #[.slice p 0 cap, fv] w fun e w' => e = .returned (.tuple #[]) ∧ w' = w := by
  have HP := Lib.hid (fun lim W => pdq_none p cap lim fv W)
  have HB := Lib.hid (fun W => (show Calls Tryz.prog 141 #[.int .u64 0] W fun e w' => e = .returned (.int .i64 (Lib.bitLen 0 : Nat)) ∧ w' = W from Any.bits_Len (SlLaysF0.n15.bits (P := Tryz.prog) (ρ := Tryz.sortIt_ren) { Tryz.sortIt with }) 0 W (by omega) (by omega)))
  go_enter Tryz.func114, Tryz.ntmps114
  go_wp2_with (first
    | (go_at_call 141; refine (HB.out _).mono ?_; rintro e w' ⟨rfl, rfl⟩)
    | (go_at_call 144; refine (HP.out _ _).mono ?_; rintro e w' ⟨rfl, rfl⟩))
  go_end0
  exact ⟨rfl, rfl⟩
end
end Go.Proofs.YtdbnddmncbjobaaGreatDoor