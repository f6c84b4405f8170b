/- made: the book and the seals of a case: walked. -/
import Derived.Test.YtdbnddmncbjobaaGreatDoorMba
namespace Go.Proofs.YtdbnddmncbjobaaGreatDoor
section
open Go Go.RowKit
attribute [local go_sem] Oper.semAt_some
def MadeGet (w : World) (e : Ending) (w' : World) : Prop := ∃ (b : Bk) (A : Option Addr) (n c : Nat) (A1 : Option Addr) (n1 c1 : Nat) (ls : List Sea), e = .returned (.tuple #[.agg #[.int .i64 b.ms, .int .i64 b.ht, .slice A n c], .slice A1 n1 c1]) ∧ OkG b ∧ n ≤ c ∧ kSe.row w' (fun _ => True) A n b.secs ∧ n1 ≤ c1 ∧ kSea.row w' (fun _ => True) A1 n1 ls ∧ ls.length ≤ 8 ∧ (∀ s ∈ ls, OkSea s) ∧ Ext w w'
set_option maxHeartbeats 8000000 in
set_option maxRecDepth 100000 in
theorem made_any (A A' : Option Addr) (c c' : Nat) (l l' : List Int) (br tb : Int) (w : World) (h : IL w A c l) (hl : l.length ≤ 9223372036854775807) (h' : IL w A' c' l') (hl' : l'.length ≤ 9223372036854775807) :
  Calls Tryz.prog 16 #[.agg #[.slice A l.length c, .slice A' l'.length c', .int .i64 br, .int .i64 tb]] w (MadeGet w) := by
 have HG := Hd (fun X (hX : Ext w X) => gbook_any A c l X (h.ext hX) hl)
 have HS := Hd (fun X (hX : Ext w X) P (b : Bk) B N cB hb hr => seals_any P X b A' B c' N cB l' (h'.ext hX) hl' hb hr)
 clear h h' hl hl'
 obtain ⟨n1, hn1⟩ : ∃ n1, l.length = n1 := ⟨_, rfl⟩
 obtain ⟨n2, hn2⟩ : ∃ n2, l'.length = n2 := ⟨_, rfl⟩
 rw [hn1] at HG ⊢
 rw [hn2] at HS ⊢
 clear hn1 hn2
 obtain ⟨z, hz⟩ : ∃ z, w.heap.size = z := ⟨_, rfl⟩
 obtain ⟨w1, hw1⟩ : ∃ w1, (w.alloc (.cells #[.slice A n1 c, .slice A' n2 c', .int .i64 br, .int .i64 tb] 24)).alloc (.cells #[.int .i64 0, .int .i64 0, .slice none 0 0] 27) = w1 := ⟨_, rfl⟩
 have hx1 : Ext w w1 := by rw [← hw1]; exact ((Ext.refl w).alloc _).alloc _
 have hB1 : w1.heap[z]? = some (.cells #[.slice A n1 c, .slice A' n2 c', .int .i64 br, .int .i64 tb] 24 (0, 0)) := by
  rw [← hw1, ← hz, haO _ _ _ (by simp)]; exact heap_alloc_new _ _
 have hB2 : w1.heap[z + 1]? = some (.cells #[.int .i64 0, .int .i64 0, .slice none 0 0] 27 (0, 0)) := by
  rw [← hw1, ← hz]; exact haA _ _ _ _ (by simp)
 have HX1 := Hd hx1
 have HB1 := Hd hB1
 have HB2 := Hd hB2
 have HZ := Hd hz
 have HZW := Hd (show z + 1 < w1.heap.size from lt_of_block hB2)
 clear hx1 hB1 hB2
 go_enter Tryz.func16, Tryz.ntmps16
 go_upto_region 1 with (fail)
 clear hw1 hz
 have a0 := cof HB1.out (i := 0) (u := .slice A n1 c) rfl
 go_wp2_with (first | (go_at_call 39; refine (HG.out _ HX1.out).mono ?_; rintro e w2 ⟨b, B, N, cB, rfl, hok, hnc, hr, hx2⟩; have HOK := Hd hok; have HNC := Hd hnc; have HR := Hd hr; have HX2 := Hd hx2; clear hok hnc hr hx2))
 obtain ⟨g, hg⟩ : ∃ g, w2.heap.size = g := ⟨_, rfl⟩
 obtain ⟨w3, hw3⟩ : ∃ w3, w2.alloc (.cells #[.int .i64 b.ms, .int .i64 b.ht, .slice B N cB] 27) = w3 := ⟨_, rfl⟩
 have hx23 : Ext w2 w3 := by rw [← hw3]; exact (Ext.refl w2).alloc _
 have hB3 : w3.heap[g]? = some (.cells #[.int .i64 b.ms, .int .i64 b.ht, .slice B N cB] 27 (0, 0)) := by rw [← hw3, ← hg]; exact heap_alloc_new _ _
 rw [hg, hw3]
 have hx13 : Ext w1 w3 := HX2.out.trans hx23
 have hl1 := lt_of_block HB1.out
 have HQ := Hd (fun X (hX : Ext w3 X) => (show X.cell? ⟨z, 1, none⟩ = some (.slice A' n2 c') ∧ X.cell? ⟨g, 0, none⟩ = some (.int .i64 b.ms) ∧ X.cell? ⟨g, 1, none⟩ = some (.int .i64 b.ht) ∧ X.cell? ⟨g, 2, none⟩ = some (.slice B N cB) from
  have h9 := (hX.block _ (lt_of_block hB3)).trans hB3
  have h8 := ((hx13.trans hX).block _ hl1).trans HB1.out
  ⟨cof h8 (i := 1) rfl, cof h9 (i := 0) rfl, cof h9 (i := 1) rfl, cof h9 (i := 2) rfl⟩))
 have HBX := Hd (fun X (hX : Ext w3 X) => (show X.heap[z + 1]? = some (.cells #[.int .i64 0, .int .i64 0, .slice none 0 0] 27 (0, 0)) from ((hx13.trans hX).block _ (lt_of_block HB2.out)).trans HB2.out))
 have HSE := Hd (HS.out _ ((HX1.out.trans hx13).trans (Ext.refl w3).drew) _ b B N cB HOK.out.okB (Lay.row_ext HR.out (hx23.trans (Ext.refl w3).drew)))
 have HX23 := Hd hx23
 have HX13 := Hd hx13
 have HG2 := Hd (show w1.heap.size ≤ g by rw [← hg]; exact HX2.out.lt)
 clear hx23 hB3 hw3 hg hx13 hl1 a0
 go_upto_region 2 with (fail)
 have hS0 : (fun X : World => X.cell? ⟨z, 1, none⟩ = some (.slice A' n2 c') ∧ X.cell? ⟨g, 0, none⟩ = some (.int .i64 b.ms) ∧ X.cell? ⟨g, 1, none⟩ = some (.int .i64 b.ht) ∧ X.cell? ⟨g, 2, none⟩ = some (.slice B N cB)) w3.drew := HQ.out _ (Ext.refl _).drew
 refine wp_region_E (fun X : World => X.cell? ⟨z, 1, none⟩ = some (.slice A' n2 c') ∧ X.cell? ⟨g, 0, none⟩ = some (.int .i64 b.ms) ∧ X.cell? ⟨g, 1, none⟩ = some (.int .i64 b.ht) ∧ X.cell? ⟨g, 2, none⟩ = some (.slice B N cB)) (fun _ => True) (fun i => i == 99) (by kernel_rfl) ?_
 refine wpE_tk 0 8 (.agg #[.int .i64 b.ms, .int .i64 b.ht, .slice B N cB]) hS0 ?_ ?_
 ·intro w9 hT9; obtain ⟨y0, y1, y2, y3⟩ := hT9; go_simp
 (try simp only [Act.put, ptA, ptB, ptC])
 refine wpE_tk 1 9 (.pointer (some ⟨z, 1, none⟩)) hS0 ?_ ?_
 ·intro w9 hT9; clear hT9; go_simp
 (try simp only [Act.put, ptA, ptB, ptC])
 refine wpE_tk 2 10 (.slice A' n2 c') hS0 ?_ ?_
 ·intro w9 hT9; obtain ⟨y0, y1, y2, y3⟩ := hT9; go_simp
 (try simp only [Act.put, ptA, ptB, ptC])
 refine wpE_tk 3 11 (.agg #[.int .i64 b.ms, .int .i64 b.ht, .slice B N cB]) hS0 ?_ ?_
 ·intro w9 hT9; obtain ⟨y0, y1, y2, y3⟩ := hT9; go_simp
 (try simp only [Act.put, ptA, ptB, ptC])
 refine wal (rs := [4]) (by kernel_rfl) (by simp) ?_
 refine AllE.cons rfl (fun K hK => ?_) AllE.nil
 simp only [List.getElem_toArray, List.getElem_cons_succ, List.getElem_cons_zero]
 go_simp
 go_at_call 54
 refine (HSE.out).mono ?_
 rintro z9 w4 ⟨A1, m1, c1, ls, rfl, hc1, hrs, hls, hgs, hx4⟩
 have hx34 : Ext w3 w4 := (Ext.refl w3).drew.trans hx4
 simp only []
 refine hK.out _ _ ⟨fun _ => (HQ.out _ hx34), trivial⟩ (fun _ => ?_)
 clear hK K
 have hS0 := (HQ.out _ hx34)
 (try simp only [Act.put, ptA, ptB, ptC])
 have HBB := Hd (HBX.out _ hx34)
 have hsw : (fun X : World => X.cell? ⟨z, 1, none⟩ = some (.slice A' n2 c') ∧ X.cell? ⟨g, 0, none⟩ = some (.int .i64 b.ms) ∧ X.cell? ⟨g, 1, none⟩ = some (.int .i64 b.ht) ∧ X.cell? ⟨g, 2, none⟩ = some (.slice B N cB)) (((w4.setCell ⟨z + 1, 0, none⟩ (.int .i64 b.ms)).setCell ⟨z + 1, 1, none⟩ (.int .i64 b.ht)).setCell ⟨z + 1, 2, none⟩ (.slice B N cB)) := by
  have hgz : g ≠ z + 1 := by have := HG2.out; have := HZW.out; omega
  have o := fun (bb oo : Nat) (u : Value) (hne : bb ≠ z + 1) (h : w4.cell? ⟨bb, oo, none⟩ = some u) => (show (((w4.setCell ⟨z + 1, 0, none⟩ (.int .i64 b.ms)).setCell ⟨z + 1, 1, none⟩ (.int .i64 b.ht)).setCell ⟨z + 1, 2, none⟩ (.slice B N cB)).cell? ⟨bb, oo, none⟩ = some u from
   (World.cell?_setCell_other _ _ _ _ (by intro e; injection e with e; omega)).trans ((World.cell?_setCell_other _ _ _ _ (by intro e; injection e with e; omega)).trans ((World.cell?_setCell_other _ _ _ _ (by intro e; injection e with e; omega)).trans h)))
  obtain ⟨y0, y1, y2, y3⟩ := HQ.out _ hx34
  exact ⟨o _ _ _ (by omega) y0, o _ _ _ hgz y1, o _ _ _ hgz y2, o _ _ _ hgz y3⟩
 have f0 := fof HBB.out 0
 have f1 := fof HBB.out 1
 have f2 := fof HBB.out 2
 have v0 := cof HBB.out (i := 0) (u := .int .i64 0) rfl
 have v1 := cof HBB.out (i := 1) (u := .int .i64 0) rfl
 have v2 := cof HBB.out (i := 2) (u := .slice none 0 0) rfl
 refine wal (rs := [5]) (by kernel_rfl) (by simp) ?_
 refine AllE.cons rfl (fun K hK => ?_) AllE.nil
 simp only [List.getElem_toArray, List.getElem_cons_succ, List.getElem_cons_zero]
 go_simp
 refine hK.out _ _ ⟨fun _ => hsw, trivial⟩ (fun _ => ?_)
 clear hK K
 (try simp only [Act.put, ptA, ptB, ptC])
 clear f0 f1 f2 v0 v1 v2
 refine wal (rs := [6]) (by kernel_rfl) (by simp) ?_
 refine AllE.cons rfl (fun K hK => ?_) AllE.nil
 simp only [List.getElem_toArray, List.getElem_cons_succ, List.getElem_cons_zero]
 go_simp
 refine hK.out _ _ ⟨fun _ => hsw, trivial⟩ (fun _ => ?_)
 clear hK K
 (try simp only [Act.put, ptA, ptB, ptC])
 refine wpE_done (by kernel_rfl) ?_ _
 go_wp2_with fail
 have hs := st3 HBB.out (.int .i64 b.ms) (.int .i64 b.ht) (.slice B N cB)
 have q0 := cof hs (i := 0) rfl
 have q1 := cof hs (i := 1) rfl
 have q2 := cof hs (i := 2) rfl
 refine bodyPost_ret (v := .tuple #[.agg #[.int .i64 b.ms, .int .i64 b.ht, .slice B N cB], .slice A1 m1 c1]) (by simp [results, Tryz.results16, go_sem, q0, q1, q2]) rfl ?_
 have hk9 : ∀ j, w1.heap.size ≤ j → ((((w4.setCell ⟨z + 1, 0, none⟩ (.int .i64 b.ms)).setCell ⟨z + 1, 1, none⟩ (.int .i64 b.ht)).setCell ⟨z + 1, 2, none⟩ (.slice B N cB)).heap[j]? = w4.heap[j]?) := fun j hj => by
  have hz9 : j ≠ z + 1 := by have := HZW.out; omega
  exact (heap_setCell_other _ ⟨z + 1, 2, none⟩ j _ hz9).trans ((heap_setCell_other _ ⟨z + 1, 1, none⟩ j _ hz9).trans (heap_setCell_other _ ⟨z + 1, 0, none⟩ j _ hz9))
 refine ⟨b, B, N, cB, A1, m1, c1, ls, rfl, HOK.out, HNC.out, ?_, hc1, ?_, hls, hgs, ext3 (HX1.out.trans (HX13.out.trans hx34)) (by have := HZ.out; omega) _ _ _⟩
 ·exact Lay.row_mono (Lay.row_keep (Lay.row_ext HR.out (HX23.out.trans hx34)) (by simp) fun j hj _ => hk9 j hj) fun _ _ _ => trivial
 ·refine Lay.row_mono (Lay.row_keep hrs (by simp) fun j hj _ => hk9 j ?_) fun _ _ _ => trivial
  have h8 : w3.heap.size ≤ j := hj
  have := HX13.out.lt
  omega
end
section
open Go Go.RowKit
attribute [local go_sem] Oper.semAt_some
theorem dnCat (w : World) (m x k : Nat) : (w.drewN (m + x)).drewN k = w.drewN (m + (x + k)) := by simp [World.drewN, Nat.add_assoc]
def kIt : Lay (List UInt8 × List Ct) := kStr.pair kCt.list
theorem it_at {W : World} {P : Nat → Prop} {A : Option Addr} {n : Nat} {xs : Tb} (h : kIt.row W P A n xs) {i : Nat} {x : List UInt8 × List Ct} (hi : xs[i]? = some x) :
  ∃ b off A2 n2 c2, A = some ⟨b, off, none⟩ ∧ b < W.heap.size ∧ W.cell? ⟨b, off + i * 2, none⟩ = some (.string ⟨x.1.toArray⟩) ∧ W.cell? ⟨b, off + i * 2 + 1, none⟩ = some (.slice A2 n2 c2) ∧ n2 ≤ c2 ∧ kCt.row W P A2 n2 x.2 := by
 obtain ⟨b, off, cs, rfl, hb, _, ⟨ca, cb, rfl, h1, A2, n2, c2, rfl, h2, h3⟩, hc⟩ := Lay.row_at h hi
 have h1' : ca = [.string ⟨x.1.toArray⟩] := h1
 subst h1'
 exact ⟨b, off, A2, n2, c2, rfl, hb, hc 0 _ rfl, hc 1 _ rfl, h2, h3⟩
def SbR (w : World) (n : Nat) (xs ys : Tb) (s5 : Value) (W : World) : Prop := ∃ i : Nat, i ≤ n ∧ s5 = .int .i64 i ∧ xs.take i = ys.take i ∧ ∃ q, W = w.drewN q
set_option maxHeartbeats 4000000 in
set_option maxRecDepth 100000 in
theorem same_any (P Q : Nat → Prop) (w : World) (xs ys : Tb) (hx9 : ∀ x ∈ xs ++ ys, x.2.length ≤ 100000000) (A A' : Option Addr) (n n' c c' : Nat) (h : kIt.row w P A n xs) (h' : kIt.row w Q A' n' ys) (hn : n ≤ 100000000) (hn' : n' ≤ 100000000) :
  Calls Tryz.prog 18 #[.slice A n c, .slice A' n' c'] w fun e w' => e = .returned (.bool (decide (xs = ys))) ∧ ∃ q, w' = w.drewN q := by
 have HL := Hd (Lay.row_len h)
 have HL' := Hd (Lay.row_len h')
 have HR := Hd h
 have HR' := Hd h'
 obtain ⟨r, hr⟩ : ∃ r, decide (xs = ys) = r := ⟨_, rfl⟩
 rw [hr]
 have HV := Hd hr
 clear h h' hr
 by_cases hne : n = n'
 case neg =>
  have d : ((n : Int) != (n' : Int)) = true := by simp; omega
  have hF : r = false := by rw [← HV.out]; exact decide_eq_false fun e => hne (by rw [HL.out, HL'.out, e])
  subst hF
  go_enter Tryz.func18, Tryz.ntmps18
  go_wp2_with fail
  go_ret
  exact ⟨rfl, 0, rfl⟩
 subst hne
 go_enter Tryz.func18, Tryz.ntmps18
 go_wp2_with fail
 go_loopw [5] (fun s5 W => SbR w n xs ys s5 W) (fun s5 _ => toM n s5)
 case atStart => exact ⟨0, by omega, rfl, rfl, 0, rfl⟩
 obtain ⟨i, hi, rfl, hp, q, rfl⟩ := hrel
 have HP := Hd hp
 clear hp
 by_cases hlt : i < n
 case neg =>
  obtain rfl : i = n := by omega
  have hni : ¬ ((i : Int) < (i : Int)) := by omega
  have hF : r = true := by
   rw [← HV.out]
   have := HP.out
   rw [HL.out, List.take_length] at this
   rw [← HL.out, HL'.out, List.take_length] at this
   exact decide_eq_true this
  subst hF
  go_wp2_with fail
  go_ret
  exact ⟨rfl, q, rfl⟩
 have hI : (i : Int) < (n : Int) := by omega
 obtain ⟨x, hx⟩ : ∃ x, xs[i]? = some x := ⟨_, List.getElem?_eq_getElem (by have := HL.out; omega)⟩
 obtain ⟨y, hy⟩ : ∃ y, ys[i]? = some y := ⟨_, List.getElem?_eq_getElem (by have := HL'.out; omega)⟩
 obtain ⟨b, off, A2, n2, c2, rfl, _, a0, a1, _, ra⟩ := it_at HR.out hx
 obtain ⟨b', off', A3, n3, c3, rfl, _, b0, b1, _, rb⟩ := it_at HR'.out hy
 have hx1 := hx9 x (List.mem_append_left _ (List.mem_of_getElem? hx))
 have hy1 := hx9 y (List.mem_append_right _ (List.mem_of_getElem? hy))
 have l2 := Lay.row_len ra
 have l3 := Lay.row_len rb
 have HX := Hd hx
 have HY := Hd hy
 clear hx hy
 have HS := Hd (fun q => samec_any P Q (w.drewN q) x.2 y.2 A2 A3 n2 n3 c2 c3 ra rb (by omega) (by omega))
 clear ra rb l2 l3 hx1 hy1
 obtain ⟨xk, xl⟩ := x
 obtain ⟨yk, yl⟩ := y
 simp only at a0 a1 b0 b1 HS
 by_cases hk : xk = yk
 ·subst hk
  by_cases hl : xl = yl
  ·subst hl
   rw [show decide (xl = xl) = true from decide_eq_true rfl] at HS
   go_upto_region 6 with (fail)
   go_quiet (first | (go_at_call 27; refine (HS.out _).mono ?_; rintro e w1 ⟨rfl, k, rfl⟩; exact ⟨rfl, _, dnCat _ _ _ _⟩))
   go_wp2_with fail
   go_roundw
   case rel => exact ⟨i + 1, by omega, by go_num, take_eq HP.out HX.out HY.out rfl, _, rfl⟩
   case measure => simp only [toM]; omega
  ·rw [decide_eq_false hl] at HS
   have hF : r = false := by
    rw [← HV.out]
    exact decide_eq_false fun e => hl (by have h9 := HX.out; rw [e, HY.out] at h9; injection h9 with h9; injection h9 with _ h9; exact h9.symm)
   subst hF
   clear hl
   go_upto_region 6 with (fail)
   go_quiet (first | (go_at_call 27; refine (HS.out _).mono ?_; rintro e w1 ⟨rfl, k, rfl⟩; exact ⟨rfl, _, dnCat _ _ _ _⟩))
   go_wp2_with fail
   go_ret
   exact ⟨rfl, q + nq, by simp [World.drewN, Nat.add_assoc]⟩
 ·have d1 : (xk == yk) = false := by simpa using hk
  have hF : r = false := by
   rw [← HV.out]
   exact decide_eq_false fun e => hk (by have h9 := HX.out; rw [e, HY.out] at h9; injection h9 with h9; injection h9 with h9 _; exact h9.symm)
  subst hF
  clear hk
  go_upto_region 6 with (fail)
  go_quiet (fail)
  go_wp2_with fail
  go_ret
  exact ⟨rfl, q + nq, by simp [World.drewN, Nat.add_assoc]⟩
end
section
open Go Go.RowKit
attribute [local go_sem] Oper.semAt_some
theorem put_skip : ∀ {T : Tb} {k : List UInt8} {x : Ct} (i : Nat), (∀ y ∈ T.take i, sLt y.1 k = true) → putP T k x = T.take i ++ putP (T.drop i) k x
 | _, _, _, 0, _ => rfl
 | [], _, _, _ + 1, _ => rfl
 | y :: r, k, x, i + 1, h => by
  have h1 : sLt y.1 k = true := h y (by simp)
  have ih := put_skip (T := r) (k := k) (x := x) i fun z hz => h z (by simp [hz])
  simp only [putP, if_pos h1, List.take_succ_cons, List.drop_succ_cons, List.cons_append, ih]
theorem put_here {T : Tb} {k : List UInt8} {x : Ct} {y : List UInt8 × List Ct} {i : Nat} (h : ∀ y ∈ T.take i, sLt y.1 k = true) (hy : T[i]? = some y) (hn : sLt y.1 k = false) :
  putP T k x = if y.1 = k then T.take i ++ [(k, placeP y.2 x)] ++ T.drop (i + 1) else T.take i ++ [(k, [x])] ++ T.drop i := by
 rw [put_skip i h]
 obtain ⟨hk, rfl⟩ := List.getElem?_eq_some_iff.1 hy
 have e : T.drop i = T[i] :: T.drop (i + 1) := List.drop_eq_getElem_cons hk
 rw [e]
 simp only [putP, hn, Bool.false_eq_true, if_false]
 split <;> simp
theorem put_end {T : Tb} {k : List UInt8} {x : Ct} (h : ∀ y ∈ T, sLt y.1 k = true) : putP T k x = T ++ [(k, [x])] := by
 have := put_skip (T := T) (k := k) (x := x) T.length (by rw [List.take_length]; exact h)
 rw [List.take_length, List.drop_length] at this
 exact this
theorem kIt_rep {W : World} {P : Nat → Prop} {x : List UInt8 × List Ct} {cs : List Value} : kIt.rep W P x cs ↔ ∃ A n c, cs = [.string ⟨x.1.toArray⟩, .slice A n c] ∧ n ≤ c ∧ kCt.row W P A n x.2 := by
 constructor
 ·rintro ⟨_, _, rfl, rfl, A, n, c, rfl, h1, h2⟩; exact ⟨A, n, c, rfl, h1, h2⟩
 ·rintro ⟨A, n, c, rfl, h1, h2⟩; exact ⟨_, _, rfl, rfl, A, n, c, rfl, h1, h2⟩
theorem kIt_sz : kIt.sz = 2 := rfl
def PuR (w1 : World) (T : Tb) (k : List UInt8) (s7 : Value) (W : World) : Prop := ∃ i : Nat, i ≤ T.length ∧ s7 = .int .i64 i ∧ (∀ y ∈ T.take i, sLt y.1 k = true) ∧ Ext w1 W
theorem pu_one {P : Nat → Prop} {w1 X : World} {T : Tb} {A : Option Addr} {n c i : Nat} (hr : kIt.row w1 P A n T) (hX : Ext w1 X) (hi : i ≤ n) (hn : n ≤ 40000000) :
  ∃ A1 c1 w2, (Builtin.append_ #[33, 33] 33 #[.slice none 0 0, .slice A i c]).run Tryz.prog X = .ok (.slice A1 i c1) w2 ∧ Ext w1 w2 ∧ kIt.own 99 w2 w1.heap.size (fun j => P j ∨ w1.heap.size ≤ j) (.slice A1 i c1) (T.take i) := by
 have hlen := Lay.row_len hr
 obtain ⟨A1, c1, w2, r1, o1, x1⟩ := own_app (k := kIt) (Pr := Tryz.prog) (t := 33) (e := 99) Tryz.underlying33 info99 rfl (by decide) (by omega) (Lay.own_nil kIt 99 X w1.heap.size (fun j => P j ∨ w1.heap.size ≤ j)) hX (Lay.row_mono (Lay.row_take hr i hi) fun j hj _ => .inl hj) c (by simp; omega)
 simp only [List.length_nil, Nat.zero_add, List.nil_append] at r1 o1
 exact ⟨A1, c1, w2, r1, x1, o1⟩
theorem pu_two {P : Nat → Prop} {w1 X : World} {T1 : Tb} {A1 : Option Addr} {i c1 : Nat} (ho : kIt.own 99 X w1.heap.size (fun j => P j ∨ w1.heap.size ≤ j) (.slice A1 i c1) T1) (hX : Ext w1 X) (hi : i = T1.length) (hi2 : i ≤ 40000000) {k : List UInt8} {l : List Ct} {B : Option Addr} {m d : Nat} (hm : m ≤ d)
  (hr : kCt.row X (fun j => (P j ∨ w1.heap.size ≤ j) ∧ (Value.slice A1 i c1).ownBlock ≠ some j) B m l) :
  ∃ A2 c2 w3, (Builtin.append_ #[33, 33] 33 #[.slice A1 i c1, .slice (some ⟨X.heap.size, 0, none⟩) 1 1]).run Tryz.prog (X.alloc (.cells #[.string ⟨k.toArray⟩, .slice B m d] 99)) = .ok (.slice A2 (i + 1) c2) w3 ∧ Ext w1 w3 ∧ kIt.own 99 w3 w1.heap.size (fun j => P j ∨ w1.heap.size ≤ j) (.slice A2 (i + 1) c2) (T1 ++ [(k, l)]) := by
 subst hi
 obtain ⟨A2, c2, w3, r2, o2, b2, _⟩ := own_app1 (k := kIt) (Pr := Tryz.prog) (t := 33) (e := 99) Tryz.underlying33 info99 rfl (by decide) (by omega) ho hX.lt (cs := #[.string ⟨k.toArray⟩, .slice B m d]) (T := 99) (x := (k, l)) (kIt_rep.2 ⟨B, m, d, rfl, hm, hr⟩) 1 (by omega)
 exact ⟨A2, c2, w3, r2, Below.trans hX (b2 _ (Nat.le_refl _)), o2⟩
theorem pu_three {P : Nat → Prop} {w1 X : World} {T T1 : Tb} {A A1 : Option Addr} {n c i c1 l : Nat} (hr : kIt.row w1 P A n T) (ho : kIt.own 99 X w1.heap.size (fun j => P j ∨ w1.heap.size ≤ j) (.slice A1 i c1) T1) (hX : Ext w1 X) (hi : i = T1.length) (hi2 : i ≤ 50000000) (hl : l ≤ n) (hc : n ≤ c) (hn : n ≤ 40000000) :
  ∃ A3 c3 w4, (Builtin.append_ #[33, 33] 33 #[.slice A1 i c1, .slice (A.map fun a => if c = l then a else a.add (l * 2)) (n - l) (c - l)]).run Tryz.prog X = .ok (.slice A3 (i + (n - l)) c3) w4 ∧ i + (n - l) ≤ c3 ∧ kIt.row w4 (fun j => P j ∨ w1.heap.size ≤ j) A3 (i + (n - l)) (T1 ++ T.drop l) ∧ Ext w1 w4 := by
 subst hi
 obtain ⟨A3, c3, w4, r3, o3, x3⟩ := own_app (k := kIt) (Pr := Tryz.prog) (t := 33) (e := 99) Tryz.underlying33 info99 rfl (by decide) (by omega) ho hX (Lay.row_mono (row_lo hr l hl hc) fun j hj _ => .inl hj) (c - l) (by omega)
 obtain ⟨h9, h8⟩ := own_rowQ o3
 exact ⟨A3, c3, w4, r3, h9, Lay.row_mono h8 fun j hj _ => hj.elim id .inr, x3⟩
theorem pu_place {P : Nat → Prop} {w1 w2 X : World} {T1 : Tb} {A1 : Option Addr} {i c1 : Nat} (ho : kIt.own 99 w2 w1.heap.size (fun j => P j ∨ w1.heap.size ≤ j) (.slice A1 i c1) T1) (hx2 : Ext w1 w2) (hX : Ext w2 X) (hi : i = T1.length) (hi2 : i ≤ 40000000) (k : List UInt8) {l : List Ct} (x : Ct) {B : Option Addr} {m d : Nat} (hm : m ≤ d) (hm2 : m ≤ 40000000)
  (hr : kCt.row w1 (fun j => P j ∧ j < w1.heap.size) B m l) :
  Calls Tryz.prog 120 #[.slice B m d, .agg #[.int .i64 x.br, .int .i64 x.nu, .int .i64 x.su, .int .i64 x.li]] X fun e w3 => ∃ B' m' d', e = .returned (.slice B' m' d') ∧ Ext w1 w3 ∧ ∃ A2 c2 w4,
   (Builtin.append_ #[33, 33] 33 #[.slice A1 i c1, .slice (some ⟨w3.heap.size, 0, none⟩) 1 1]).run Tryz.prog (w3.alloc (.cells #[.string ⟨k.toArray⟩, .slice B' m' d'] 99)) = .ok (.slice A2 (i + 1) c2) w4 ∧ Ext w1 w4 ∧ kIt.own 99 w4 w1.heap.size (fun j => P j ∨ w1.heap.size ≤ j) (.slice A2 (i + 1) c2) (T1 ++ [(k, placeP l x)]) := by
 have hlt := Lay.own_lt ho
 refine (placec_any (fun j => (P j ∨ w1.heap.size ≤ j) ∧ (Value.slice A1 i c1).ownBlock ≠ some j) X l x B m d (Lay.row_mono (Lay.row_ext hr (hx2.trans hX)) fun j hj _ => ⟨.inl hj.1, fun e => by have := (hlt j e).1; have := hj.2; omega⟩) hm hm2).mono ?_
 rintro e w3 ⟨B', m', d', rfl, hm', hr', hx3⟩
 obtain ⟨A2, c2, w4, r2, x4, o2⟩ := pu_two (k := k) (Lay.own_ext ho (hX.trans hx3)) ((hx2.trans hX).trans hx3) hi hi2 hm' (Lay.row_mono hr' fun j hj _ => hj.elim id fun hj => ⟨.inr (Nat.le_trans (hx2.trans hX).lt hj), fun e => by have := (hlt j e).2; have := hX.lt; omega⟩)
 exact ⟨B', m', d', rfl, (hx2.trans hX).trans hx3, A2, c2, w4, r2, x4, o2⟩
theorem pu_new {P : Nat → Prop} {w1 w2 : World} {T1 : Tb} {A1 : Option Addr} {i c1 : Nat} (ho : kIt.own 99 w2 w1.heap.size (fun j => P j ∨ w1.heap.size ≤ j) (.slice A1 i c1) T1) (hx2 : Ext w1 w2) (hi : i = T1.length) (hi2 : i ≤ 40000000) (k : List UInt8) (x : Ct) :
  ∃ A2 c2 w4, (Builtin.append_ #[33, 33] 33 #[.slice A1 i c1, .slice (some ⟨w2.heap.size + 1, 0, none⟩) 1 1]).run Tryz.prog ((w2.alloc (.cells #[.int .i64 x.br, .int .i64 x.nu, .int .i64 x.su, .int .i64 x.li] 69)).alloc (.cells #[.string ⟨k.toArray⟩, .slice (some ⟨w2.heap.size, 0, none⟩) 1 1] 99)) = .ok (.slice A2 (i + 1) c2) w4 ∧ Ext w1 w4 ∧
   kIt.own 99 w4 w1.heap.size (fun j => P j ∨ w1.heap.size ≤ j) (.slice A2 (i + 1) c2) (T1 ++ [(k, [x])]) := by
 have hlt := Lay.own_lt ho
 have hr : kCt.row (w2.alloc (.cells #[.int .i64 x.br, .int .i64 x.nu, .int .i64 x.su, .int .i64 x.li] 69)) (fun j => False ∨ w2.heap.size ≤ j) (some ⟨w2.heap.size, 0, none⟩) 1 [x] := (own_rowQ (own_new (k := kCt) (X := w2) (base := w2.heap.size) (P := fun _ => False) (x := x) (cs := #[.int .i64 x.br, .int .i64 x.nu, .int .i64 x.su, .int .i64 x.li]) (e := 69) (Nat.le_refl _) (kCt_rep.2 rfl))).2
 have hx3 : Ext w2 (w2.alloc (.cells #[.int .i64 x.br, .int .i64 x.nu, .int .i64 x.su, .int .i64 x.li] 69)) := (Ext.refl w2).alloc _
 obtain ⟨A2, c2, w4, r2, x4, o2⟩ := pu_two (k := k) (Lay.own_ext ho hx3) (hx2.trans hx3) hi hi2 (Nat.le_refl 1) (Lay.row_mono hr fun j hj _ => hj.elim False.elim fun hj => ⟨.inr (Nat.le_trans hx2.lt hj), fun e => by have := (hlt j e).2; omega⟩)
 have e : (w2.alloc (.cells #[.int .i64 x.br, .int .i64 x.nu, .int .i64 x.su, .int .i64 x.li] 69)).heap.size = w2.heap.size + 1 := by simp
 rw [e] at r2
 exact ⟨A2, c2, w4, r2, x4, o2⟩
set_option maxHeartbeats 4000000 in
set_option maxRecDepth 100000 in
theorem put_any (P : Nat → Prop) (w : World) (T : Tb) (k : List UInt8) (x : Ct) (A : Option Addr) (n c : Nat) (h : kIt.row w P A n T) (hc : n ≤ c) (hn : n ≤ 40000000) (hT : ∀ y ∈ T, y.2.length ≤ 40000000) :
  Calls Tryz.prog 62 #[.slice A n c, .string ⟨k.toArray⟩, ctV x] w fun e w' => ∃ A' n' c', e = .returned (.slice A' n' c') ∧ n' ≤ c' ∧ kIt.row w' (fun j => P j ∨ w.heap.size ≤ j) A' n' (putP T k x) ∧ Ext w w' := by
 have HL := Hd (Lay.row_len h)
 have HA := Hd (fun e => row_A h e)
 have HTB := Hd hT
 clear hT
 unfold ctV
 obtain ⟨z, hz⟩ : ∃ z, w.heap.size = z := ⟨_, rfl⟩
 obtain ⟨w1, hw1⟩ : ∃ w1, w.alloc (.cells #[.int .i64 x.br, .int .i64 x.nu, .int .i64 x.su, .int .i64 x.li] 69) = w1 := ⟨_, rfl⟩
 have hx1 : Ext w w1 := by rw [← hw1]; exact (Ext.refl w).alloc _
 have hB : w1.heap[z]? = some (.cells #[.int .i64 x.br, .int .i64 x.nu, .int .i64 x.su, .int .i64 x.li] 69 (0, 0)) := by rw [← hw1, ← hz]; exact heap_alloc_new _ _
 have hzl := lt_of_block hB
 have HQ := Hd (fun X (hX : Ext w1 X) => (show X.cell? ⟨z, 0, none⟩ = some (.int .i64 x.br) ∧ X.cell? ⟨z, 1, none⟩ = some (.int .i64 x.nu) ∧ X.cell? ⟨z, 2, none⟩ = some (.int .i64 x.su) ∧ X.cell? ⟨z, 3, none⟩ = some (.int .i64 x.li) from
  have h9 := (hX.block _ hzl).trans hB
  ⟨cof h9 (i := 0) rfl, cof h9 (i := 1) rfl, cof h9 (i := 2) rfl, cof h9 (i := 3) rfl⟩))
 have HR1 := Hd (show kIt.row w1 (fun j => P j ∧ j < w1.heap.size) A n T from Lay.row_mono (Lay.row_ext h hx1) fun j hj hjl => ⟨hj, hjl⟩)
 have HX1 := Hd hx1
 have HZ := Hd (show w.heap.size ≤ w1.heap.size from hx1.lt)
 have HRF := Hd (fun (X : World) (B : Option Addr) (m : Nat) (S : Tb) (hr : kIt.row X (fun j => (P j ∧ j < w1.heap.size) ∨ w1.heap.size ≤ j) B m S) => (show kIt.row X (fun j => P j ∨ w.heap.size ≤ j) B m S from Lay.row_mono hr fun j hj _ => hj.imp (·.1) (Nat.le_trans hx1.lt)))
 have HTK := Hd (fun i (hi : i ≤ n) => (show i = (T.take i).length by rw [List.length_take]; have := HL.out; omega))
 clear h hx1 hB hzl
 go_enter Tryz.func62, Tryz.ntmps62
 go_upto_region 1 with (fail)
 clear hw1 hz
 go_wp2_with fail
 go_loopw [7] (fun s7 W => PuR w1 T k s7 W) (fun s7 _ => toM n s7)
 case atStart => exact ⟨0, by omega, rfl, by simp, Ext.refl _⟩
 obtain ⟨i, hi, rfl, hp, hxr⟩ := hrel
 rw [← HL.out] at hi
 have HP := Hd hp
 have HX := Hd hxr
 clear hp hxr
 have hw1i : IntKind.i64.wrap ((i : Int) + 1) = (i : Int) + 1 := IntWalk.i64_in _ (by omega)
 by_cases hin : i < n
 case neg =>
  obtain rfl : i = n := by omega
  have hin' : ¬ ((i : Int) < (i : Int)) := by omega
  have hinb : decide ((i : Int) < (i : Int)) = false := decide_eq_false hin'
  have HPE := Hd (show putP T k x = T.take i ++ [(k, [x])] ++ T.drop i from by
   have hp := HP.out
   rw [HL.out, List.take_length] at hp
   rw [HL.out, List.take_length, List.drop_length, List.append_nil]
   exact put_end hp)
  have hs1 := fun W => hi33 A i c i hi hc HA.out W
  have hs2 := fun W => lo33 A i c i hi hc HA.out W
  obtain ⟨A1, c1, w2, r1, x2, o1⟩ := pu_one (c := c) HR1.out HX.out hi hn
  obtain ⟨A2, c2, w4, r2, x4, o2⟩ := pu_new o1 x2 (HTK.out i hi) (by omega) k x
  obtain ⟨A3, c3, w5, r3, hc3, o3, x5⟩ := pu_three (l := i) HR1.out o2 x4 (by rw [List.length_append, ← HTK.out i hi]; rfl) (by omega) hi hc hn
  obtain ⟨q0, q1, q2, q3⟩ := HQ.out _ x2
  generalize (A.map fun a => if c = i then a else a.add (i * 2)) = B at hs2 r3
  generalize c - i = ck at hs2 r3
  generalize hnk : i - i = nk at hs2 r3 hc3 o3
  have R1 := Hd r1
  have R2 := Hd r2
  have R3 := Hd r3
  have HO3 := Hd o3
  have HX5 := Hd x5
  have HC3 := Hd hc3
  clear r1 x2 o1 r2 x4 o2 r3 hc3 o3 x5 hnk
  go_wp2_with (first
   | (at_builtin; refine wpList_append_run (s := .tmp 24) (x := .tmp 27) R1.out rfl rfl rfl rfl rfl ?_)
   | (at_builtin; refine wpList_append_run (s := .tmp 60) (x := .tmp 65) R2.out rfl rfl rfl rfl rfl ?_)
   | (at_builtin; refine wpList_append_run (s := .tmp 67) (x := .tmp 70) R3.out rfl rfl rfl rfl rfl ?_))
  go_ret
  refine ⟨A3, _, c3, rfl, HC3.out, ?_, HX1.out.trans HX5.out⟩
  rw [HPE.out]
  exact HRF.out _ _ _ _ HO3.out
 have hI : (i : Int) < (n : Int) := by omega
 obtain ⟨y, hy⟩ : ∃ y, T[i]? = some y := ⟨_, List.getElem?_eq_getElem (by have := HL.out; omega)⟩
 obtain ⟨b, off, A2, n2, c2, rfl, hb, a0, a1, hnc2, hr2⟩ := it_at HR1.out hy
 have HYC := Hd (fun X (hX : Ext w1 X) => (show X.cell? ⟨b, off + i * 2, none⟩ = some (.string ⟨y.1.toArray⟩) ∧ X.cell? ⟨b, off + i * 2 + 1, none⟩ = some (.slice A2 n2 c2) from ⟨(hX.cells.1 b _ hb).trans a0, (hX.cells.1 b _ hb).trans a1⟩))
 have HR2 := Hd hr2
 have HN2 := Hd (show n2 ≤ 40000000 by rw [Lay.row_len hr2]; exact HTB.out y (List.mem_of_getElem? hy))
 have HY := Hd hy
 clear a0 a1 hy hr2
 obtain ⟨a0, a1⟩ := HYC.out _ HX.out
 cases hs : sLt y.1 k with
 | true =>
  have hbl : Op.bytesLess y.1 k = true := hs
  have HNX := Hd (show ∀ y ∈ T.take (i + 1), sLt y.1 k = true from by
   intro y' hy'
   rw [List.take_add_one, HY.out] at hy'
   rcases List.mem_append.1 hy' with h8 | h8
   ·exact HP.out y' h8
   ·simp only [Option.toList_some, List.mem_singleton] at h8
    subst h8; exact hs)
  clear hs
  go_wp2_with fail
  go_roundw
  case rel => exact ⟨i + 1, by have := HL.out; omega, by go_num, HNX.out, HX.out⟩
  case measure => simp only [toM]; omega
 | false =>
  have hbl : Op.bytesLess y.1 k = false := hs
  have HPL := Hd (put_here (x := x) HP.out HY.out hs)
  clear hs
  have hs1 := fun W => hi33 (some ⟨b, off, none⟩) n c i hi hc HA.out W
  obtain ⟨A1, c1, w2, r1, x2, o1⟩ := pu_one (c := c) HR1.out HX.out hi hn
  obtain ⟨q0, q1, q2, q3⟩ := HQ.out _ x2
  obtain ⟨e0, e1⟩ := HYC.out _ x2
  have R1 := Hd r1
  clear r1
  by_cases hyk : y.1 = k
  ·have hbq : (y.1 == k) = true := by simpa using hyk
   have HPE := Hd (HPL.out.trans (if_pos hyk))
   have HCP := Hd (fun X (hX : Ext w2 X) => pu_place o1 x2 hX (HTK.out i hi) (by omega) k x hnc2 HN2.out (Lay.row_mono HR2.out fun j hj hjl => ⟨hj, hjl⟩))
   have hs3 : ∀ W, (Instr.sliceAt 33 (.slice (some ⟨b, off, none⟩) n c) (some (.int .i64 ((i : Int) + 1))) none none).run Tryz.prog W = .ok (.slice ((some (⟨b, off, none⟩ : Addr)).map fun a => if c = i + 1 then a else a.add ((i + 1) * 2)) (n - (i + 1)) (c - (i + 1))) W := fun W => by
    have := lo33 (some ⟨b, off, none⟩) n c (i + 1) (by omega) hc HA.out W
    rwa [Int.natCast_add] at this
   have HTH := Hd (fun (X : World) (A5 : Option Addr) (c5 : Nat) o5 x5 => pu_three (P := fun j => P j ∧ j < w1.heap.size) (w1 := w1) (X := X) (T := T) (T1 := T.take i ++ [(k, placeP y.2 x)]) (A := some ⟨b, off, none⟩) (A1 := A5) (n := n) (c := c) (i := i + 1) (c1 := c5) (l := i + 1) HR1.out o5 x5 (by rw [List.length_append, ← HTK.out i hi]; rfl) (by omega) (by omega) hc hn)
   generalize ((some (⟨b, off, none⟩ : Addr)).map fun a => if c = i + 1 then a else a.add ((i + 1) * 2)) = B at hs3 HTH
   generalize c - (i + 1) = ck at hs3 HTH
   generalize n - (i + 1) = nk at hs3 HTH
   have HS := Hd (fun X (hX : Ext w1 X) => And.intro (HYC.out X hX).2 (HQ.out X hX))
   clear hyk o1
   have HX2 := Hd x2
   clear x2
   go_upto_region 7 with (first | (at_builtin; refine wpList_append_run (s := .tmp 24) (x := .tmp 27) R1.out rfl rfl rfl rfl rfl ?_))
   have hcur : Ext w1 w2.drew := HX2.out.drew
   go_region_held3 (fun X => X.cell? ⟨b, off + i * 2 + 1, none⟩ = some (.slice A2 n2 c2) ∧ X.cell? ⟨z, 0, none⟩ = some (.int .i64 x.br) ∧ X.cell? ⟨z, 1, none⟩ = some (.int .i64 x.nu) ∧ X.cell? ⟨z, 2, none⟩ = some (.int .i64 x.su) ∧ X.cell? ⟨z, 3, none⟩ = some (.int .i64 x.li))
    (first | exact HS.out _ hcur | exact HS.out _ (hcur.alloc _)) (first
    | (go_at_call 120; refine (HCP.out _ (Ext.refl w2).drew).mono ?_; rintro e w3 ⟨B', m', d', rfl, x3, A5, c5, w4, r2, x4, o2⟩; obtain ⟨A6, c6, w5, r3, hc6, o6, x6⟩ := HTH.out _ _ _ o2 x4; have hcur := x3; have R2 := Hd r2; have R3 := Hd r3; have HC6 := Hd hc6; have HO6 := Hd o6; have HX6 := Hd x6; have HX4 := Hd x4; clear x3 r2 x4 o2 r3 hc6 o6 x6)
    | (have hcur := HX4.out; refine step_append_run (s := .tmp 42) (x := .tmp 52) R2.out rfl rfl rfl rfl rfl ?_))
   go_wp2_with (first
    | (at_builtin; refine wpList_append_run (s := .tmp 54) (x := .tmp 58) R3.out rfl rfl rfl rfl rfl ?_))
   go_ret
   refine ⟨A6, _, c6, rfl, HC6.out, ?_, HX1.out.trans HX6.out⟩
   rw [HPE.out]
   exact HRF.out _ _ _ _ HO6.out
  ·have hbq : (y.1 == k) = false := by simpa using hyk
   have HPE := Hd (HPL.out.trans (if_neg hyk))
   have hs2 := fun W => lo33 (some ⟨b, off, none⟩) n c i hi hc HA.out W
   obtain ⟨A5, c5, w4, r2, x4, o2⟩ := pu_new o1 x2 (HTK.out i hi) (by omega) k x
   obtain ⟨A6, c6, w5, r3, hc6, o6, x6⟩ := pu_three (l := i) HR1.out o2 x4 (by rw [List.length_append, ← HTK.out i hi]; rfl) (by omega) hi hc hn
   generalize ((some (⟨b, off, none⟩ : Addr)).map fun a => if c = i then a else a.add (i * 2)) = B at hs2 r3
   generalize c - i = ck at hs2 r3
   generalize n - i = nk at hs2 r3 hc6 o6
   have R2 := Hd r2
   have R3 := Hd r3
   have HC6 := Hd hc6
   have HO6 := Hd o6
   have HX6 := Hd x6
   clear hyk o1 x2 r2 x4 o2 r3 hc6 o6 x6
   go_wp2_with (first
    | (at_builtin; refine wpList_append_run (s := .tmp 24) (x := .tmp 27) R1.out rfl rfl rfl rfl rfl ?_)
    | (at_builtin; refine wpList_append_run (s := .tmp 60) (x := .tmp 65) R2.out rfl rfl rfl rfl rfl ?_)
    | (at_builtin; refine wpList_append_run (s := .tmp 67) (x := .tmp 70) R3.out rfl rfl rfl rfl rfl ?_))
   go_ret
   refine ⟨A6, _, c6, rfl, HC6.out, ?_, HX1.out.trans HX6.out⟩
   rw [HPE.out]
   exact HRF.out _ _ _ _ HO6.out
end
section
open Go Go.RowKit
attribute [local go_sem] Oper.semAt_some
structure TbV (W : World) (A : Option Addr) (n c : Nat) (T : Tb) (M : Nat) : Prop where
 row : kIt.row W (fun _ => True) A n T
 nc : n ≤ c
 reg : Reg T
 len : (prs T).length ≤ M
 key : ∀ x ∈ T, x.1.length ≤ 1000
theorem TbV.ext {W W' : World} {A : Option Addr} {n c : Nat} {T : Tb} {M : Nat} (h : TbV W A n c T M) (hx : Ext W W') : TbV W' A n c T M := ⟨Lay.row_ext h.row hx, h.nc, h.reg, h.len, h.key⟩
theorem TbV.n {W : World} {A : Option Addr} {n c : Nat} {T : Tb} {M : Nat} (h : TbV W A n c T M) : n = T.length ∧ n ≤ M ∧ ∀ x ∈ T, x.2.length ≤ M := by
 have h1 := Lay.row_len h.row
 have h2 := prs_le h.reg.some
 have h3 := h.len
 exact ⟨h1, by omega, fun x hx => Nat.le_trans (prs_mem_le hx) h.len⟩
theorem TbV.nil (W : World) (M : Nat) : TbV W none 0 0 [] M := ⟨Lay.row_nil _ _ _, Nat.le_refl _, reg_nil, Nat.zero_le _, fun x hx => by cases hx⟩
theorem TbV.mono {W : World} {A : Option Addr} {n c : Nat} {T : Tb} {M M' : Nat} (h : TbV W A n c T M) (hm : M ≤ M') : TbV W A n c T M' := ⟨h.row, h.nc, h.reg, Nat.le_trans h.len hm, h.key⟩
theorem put_tb {w : World} {A : Option Addr} {n c : Nat} {T : Tb} {M : Nat} (h : TbV w A n c T M) (hM : M ≤ 40000000) (k : List UInt8) (hk : k.length ≤ 1000) (x : Ct) :
  Calls Tryz.prog 62 #[.slice A n c, .string ⟨k.toArray⟩, .agg #[.int .i64 x.br, .int .i64 x.nu, .int .i64 x.su, .int .i64 x.li]] w fun e w' => ∃ A' n' c', e = .returned (.slice A' n' c') ∧ TbV w' A' n' c' (putP T k x) (M + 1) ∧ Ext w w' := by
 obtain ⟨_, hn, hm⟩ := h.n
 refine (put_any _ w T k x A n c h.row h.nc (by omega) fun y hy => Nat.le_trans (hm y hy) hM).mono ?_
 rintro e w' ⟨A', n', c', rfl, hc', hr', hx⟩
 refine ⟨A', n', c', rfl, ⟨Lay.row_mono hr' fun _ _ _ => trivial, hc', reg_put T k x h.reg, Nat.le_trans (put_len T k x) (Nat.succ_le_succ h.len), fun y hy => ?_⟩, hx⟩
 rcases put_keys T k x y hy with e | hy
 ·rw [e]; exact hk
 ·exact h.key y hy
end
end Go.Proofs.YtdbnddmncbjobaaGreatDoor