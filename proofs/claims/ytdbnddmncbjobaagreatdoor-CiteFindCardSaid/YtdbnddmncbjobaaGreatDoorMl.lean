/- The reference's Find: walked (printed by genvl.py). -/
import Derived.Test.YtdbnddmncbjobaaGreatDoorVj
import Derived.Test.YtdbnddmncbjobaaGreatDoorMh
import Derived.Deep.QuietTactic
import Derived.BigQuiet
import Derived.Test.YtdbnddmncbjobaaGreatDoorMi
namespace Go.Proofs.YtdbnddmncbjobaaGreatDoor
open Go Go.RowKit

set_option maxHeartbeats 4000000 in
set_option maxRecDepth 100000 in
theorem rfind_cite (P : Nat → Prop) (w : World) (b : Bk) (br n s line : Int) (A : Option Addr) (N c : Nat) (hb : BkI b) (hr : kSe.row w P A N b.secs) (hl1 : line ≤ 9223372036854775807) :
    Calls Tryz.prog 45 #[.agg #[.int .i64 b.ms, .int .i64 b.ht, .slice A N c], .agg #[.int .i64 br, .int .i64 n, .int .i64 s, .int .i64 line]] w (FindPost w b n s line) := by
  have HPG := Lib.hid (fun (X : World) (hX : Ext w X) => rpage_any P X b n s A N c hb (Lay.row_ext hr hX))
  have HPL := Lib.hid (fun p (hp : pageP b n s = some p) => page_ln hb hp)
  clear hb hr
  go_enter Tryz.func45, Tryz.ntmps45
  go_upto_region 1 with (fail)
  obtain ⟨w1, hw1⟩ : ∃ w1, (((w.alloc (.cells #[.int .i64 b.ms, .int .i64 b.ht, .slice A N c] 27)).alloc (.cells #[.int .i64 br, .int .i64 n, .int .i64 s, .int .i64 line] 69)).alloc (.cells #[.int .i64 0, .int .i64 0, .int .i64 0, .int .i64 0, .slice none 0 0, .slice none 0 0] 84)).alloc (.cells #[.int .i64 0, .int .i64 0, .slice none 0 0, .slice none 0 0] 86) = w1 := ⟨_, rfl⟩
  obtain ⟨z0, hz0⟩ : ∃ z, w.heap.size = z := ⟨_, rfl⟩
  have hx1 : Ext w w1 := by rw [← hw1]; exact ((((Ext.refl w).alloc _).alloc _).alloc _).alloc _
  have h0 : w1.heap[z0]? = some (.cells #[.int .i64 b.ms, .int .i64 b.ht, .slice A N c] 27 (0, 0)) := by rw [← hw1, ← hz0, heap_alloc_old _ _ _ (by simp <;> omega), heap_alloc_old _ _ _ (by simp <;> omega), heap_alloc_old _ _ _ (by simp)]; exact heap_alloc_at _ _ _ _ rfl
  have h1 : w1.heap[z0 + 1]? = some (.cells #[.int .i64 br, .int .i64 n, .int .i64 s, .int .i64 line] 69 (0, 0)) := by rw [← hw1, ← hz0, heap_alloc_old _ _ _ (by simp <;> omega), heap_alloc_old _ _ _ (by simp)]; exact heap_alloc_at _ _ _ _ (by simp)
  have hF : FiR (z0 + 1 + 1) (z0 + 1 + 1 + 1) w1 := by
    refine ⟨?_, ?_⟩
    · rw [← hw1, ← hz0, heap_alloc_old _ _ _ (by simp)]; exact heap_alloc_at _ _ _ _ (by simp)
    · rw [← hw1, ← hz0]; exact heap_alloc_at _ _ _ _ (by simp)
  obtain ⟨z3, hz3⟩ : ∃ z, z0 + 1 + 1 + 1 = z := ⟨_, rfl⟩
  obtain ⟨z2, hz2⟩ : ∃ z, z0 + 1 + 1 = z := ⟨_, rfl⟩
  obtain ⟨z1, hz1⟩ : ∃ z, z0 + 1 = z := ⟨_, rfl⟩
  rw [hz0]
  rw [hw1, hz3, hz2, hz1]
  rw [hz3, hz2] at hF
  rw [hz1] at h1
  have hne : z2 ≠ z3 := by omega
  have hne' : z3 ≠ z2 := by omega
  have hn12 : z1 ≠ z2 := by omega
  have hn13 : z1 ≠ z3 := by omega
  have hn21 : z2 ≠ z1 := by omega
  have hn31 : z3 ≠ z1 := by omega
  have HZ := Lib.hid (show w.heap.size ≤ z2 ∧ w.heap.size ≤ z3 by omega)
  have a0 := cell_of h0 (i := 0) (u := .int .i64 b.ms) rfl
  have a1 := cell_of h0 (i := 1) (u := .int .i64 b.ht) rfl
  have a2 := cell_of h0 (i := 2) (u := .slice A N c) rfl
  have e1 := cell_of h1 (i := 1) (u := .int .i64 n) rfl
  have e2 := cell_of h1 (i := 2) (u := .int .i64 s) rfl
  have H1 := Lib.hid h1
  have HF := Lib.hid hF
  have HX1 := Lib.hid hx1
  have HP1 := Lib.hid (HPG.out w1 hx1)
  clear h0 h1 hF hx1 hz0 hz1 hz2 hz3 hw1 HPG
  go_upto_region 2 with (first | (go_at_call 92; refine (HP1.out).mono ?_; rintro z w2 (⟨hpn, rfl, hx2⟩ | ⟨p, A7, n7, c7, A8, n8, c8, hps, rfl, hc7, hc8, hr7, hr8, hx2⟩)))
  · have hx3 : Ext w1 (w2.alloc (.cells #[.int .i64 0, .int .i64 0, .int .i64 0, .int .i64 0, .slice none 0 0, .slice none 0 0] 84)) := hx2.alloc _
    have hp3 := heap_alloc_new w2 (.cells #[.int .i64 0, .int .i64 0, .int .i64 0, .int .i64 0, .slice none 0 0, .slice none 0 0] 84)
    have hw23 := (Ext.refl w2).alloc (.cells #[.int .i64 0, .int .i64 0, .int .i64 0, .int .i64 0, .slice none 0 0, .slice none 0 0] 84)
    obtain ⟨w3, hw3⟩ : ∃ w3, w2.alloc (.cells #[.int .i64 0, .int .i64 0, .int .i64 0, .int .i64 0, .slice none 0 0, .slice none 0 0] 84) = w3 := ⟨_, rfl⟩
    obtain ⟨z7, hz7⟩ : ∃ z, w2.heap.size = z := ⟨_, rfl⟩
    rw [hw3] at hx3 hp3 hw23 ⊢
    rw [hz7] at hp3 ⊢
    have hn72 : z7 ≠ z2 := by have := lt_of_block HF.out.h2; have := hx2.lt; omega
    have hn73 : z7 ≠ z3 := by have := lt_of_block HF.out.h3; have := hx2.lt; omega
    have hn27 : z2 ≠ z7 := fun e => hn72 e.symm
    have hn37 : z3 ≠ z7 := fun e => hn73 e.symm
    have e3 := cell_of ((hx3.block _ (lt_of_block H1.out)).trans H1.out) (i := 3) (u := .int .i64 line) rfl
    have hf := HF.out.ext hx3
    have k0 := cell_of hf.h2 (i := 0) (u := .int .i64 0) rfl
    have k1 := cell_of hf.h2 (i := 1) (u := .int .i64 0) rfl
    have k2 := cell_of hf.h2 (i := 2) (u := .int .i64 0) rfl
    have k3 := cell_of hf.h2 (i := 3) (u := .int .i64 0) rfl
    have k4 := cell_of hf.h2 (i := 4) (u := .slice none 0 0) rfl
    have k5 := cell_of hf.h2 (i := 5) (u := .slice none 0 0) rfl
    have f0 := frozen_of hf.h2 0
    have f1 := frozen_of hf.h2 1
    have f2 := frozen_of hf.h2 2
    have f3 := frozen_of hf.h2 3
    have f4 := frozen_of hf.h2 4
    have f5 := frozen_of hf.h2 5
    have m0 := cell_of hf.h3 (i := 0) (u := .int .i64 0) rfl
    have m1 := cell_of hf.h3 (i := 1) (u := .int .i64 0) rfl
    have m2 := cell_of hf.h3 (i := 2) (u := .slice none 0 0) rfl
    have m3 := cell_of hf.h3 (i := 3) (u := .slice none 0 0) rfl
    have g0 := frozen_of hf.h3 0
    have g1 := frozen_of hf.h3 1
    have g2 := frozen_of hf.h3 2
    have g3 := frozen_of hf.h3 3
    have HX3 := Lib.hid (HX1.out.trans hx3)
    have HF3 := Lib.hid hf
    clear hw3 hz7 hx2 hf a0 a1 a2 e1 e2 HP1
    obtain ⟨q, hq⟩ : ∃ q : Int, line - 1 = q := ⟨_, rfl⟩
    have HC := Lib.hid (show citP b n s line = none by unfold citP; rw [hpn]; rfl)
    clear hpn hx3 hp3 hw23
    go_wp2_with fail
    obtain ⟨Y, hY⟩ : ∃ Y, ((((((((((w3.setCell ⟨z2, 0, none⟩ (.int .i64 0)).setCell ⟨z2, 1, none⟩ (.int .i64 0)).setCell ⟨z2, 2, none⟩ (.int .i64 0)).setCell ⟨z2, 3, none⟩ (.int .i64 0)).setCell ⟨z2, 4, none⟩ (.slice none 0 0)).setCell ⟨z2, 5, none⟩ (.slice none 0 0)).setCell ⟨z3, 0, none⟩ (.int .i64 0)).setCell ⟨z3, 1, none⟩ (.int .i64 0)).setCell ⟨z3, 2, none⟩ (.slice none 0 0)).setCell ⟨z3, 3, none⟩ (.slice none 0 0)) = Y := ⟨_, rfl⟩
    have hs := st10 hne HF3.out.h2 HF3.out.h3 (.int .i64 0) (.int .i64 0) (.int .i64 0) (.int .i64 0) (.slice none 0 0) (.slice none 0 0) (.int .i64 0) (.int .i64 0) (.slice none 0 0) (.slice none 0 0)
    rw [hY] at hs ⊢
    have t0 := cell_of hs.h2 (i := 0) rfl
    have t1 := cell_of hs.h2 (i := 1) rfl
    have t2 := cell_of hs.h2 (i := 2) rfl
    have t3 := cell_of hs.h2 (i := 3) rfl
    have t4 := cell_of hs.h2 (i := 4) rfl
    have t5 := cell_of hs.h2 (i := 5) rfl
    have s0 := cell_of hs.h3 (i := 0) rfl
    have s1 := cell_of hs.h3 (i := 1) rfl
    have s2 := cell_of hs.h3 (i := 2) rfl
    have s3 := cell_of hs.h3 (i := 3) rfl
    refine bodyPost_ret (v := .tuple #[.agg #[.int .i64 0, .int .i64 0, .int .i64 0, .int .i64 0, .slice none 0 0, .slice none 0 0], .agg #[.int .i64 0, .int .i64 0, .slice none 0 0, .slice none 0 0], .bool false]) (by simp [results, Tryz.results45, go_sem, t0, t1, t2, t3, t4, t5, s0, s1, s2, s3]) rfl ?_
    exact ⟨hs.ext w HZ.out.1 HZ.out.2 HX3.out, .inl ⟨HC.out, rfl⟩⟩
  · have hx3 : Ext w1 (w2.alloc (.cells #[.int .i64 p.num, .int .i64 p.suf, .int .i64 p.ent, .int .i64 p.ver, .slice A7 n7 c7, .slice A8 n8 c8] 84)) := hx2.alloc _
    have hp3 := heap_alloc_new w2 (.cells #[.int .i64 p.num, .int .i64 p.suf, .int .i64 p.ent, .int .i64 p.ver, .slice A7 n7 c7, .slice A8 n8 c8] 84)
    have hw23 := (Ext.refl w2).alloc (.cells #[.int .i64 p.num, .int .i64 p.suf, .int .i64 p.ent, .int .i64 p.ver, .slice A7 n7 c7, .slice A8 n8 c8] 84)
    obtain ⟨w3, hw3⟩ : ∃ w3, w2.alloc (.cells #[.int .i64 p.num, .int .i64 p.suf, .int .i64 p.ent, .int .i64 p.ver, .slice A7 n7 c7, .slice A8 n8 c8] 84) = w3 := ⟨_, rfl⟩
    obtain ⟨z7, hz7⟩ : ∃ z, w2.heap.size = z := ⟨_, rfl⟩
    rw [hw3] at hx3 hp3 hw23 ⊢
    rw [hz7] at hp3 ⊢
    have hn72 : z7 ≠ z2 := by have := lt_of_block HF.out.h2; have := hx2.lt; omega
    have hn73 : z7 ≠ z3 := by have := lt_of_block HF.out.h3; have := hx2.lt; omega
    have hn27 : z2 ≠ z7 := fun e => hn72 e.symm
    have hn37 : z3 ≠ z7 := fun e => hn73 e.symm
    have e3 := cell_of ((hx3.block _ (lt_of_block H1.out)).trans H1.out) (i := 3) (u := .int .i64 line) rfl
    have hf := HF.out.ext hx3
    have k0 := cell_of hf.h2 (i := 0) (u := .int .i64 0) rfl
    have k1 := cell_of hf.h2 (i := 1) (u := .int .i64 0) rfl
    have k2 := cell_of hf.h2 (i := 2) (u := .int .i64 0) rfl
    have k3 := cell_of hf.h2 (i := 3) (u := .int .i64 0) rfl
    have k4 := cell_of hf.h2 (i := 4) (u := .slice none 0 0) rfl
    have k5 := cell_of hf.h2 (i := 5) (u := .slice none 0 0) rfl
    have f0 := frozen_of hf.h2 0
    have f1 := frozen_of hf.h2 1
    have f2 := frozen_of hf.h2 2
    have f3 := frozen_of hf.h2 3
    have f4 := frozen_of hf.h2 4
    have f5 := frozen_of hf.h2 5
    have m0 := cell_of hf.h3 (i := 0) (u := .int .i64 0) rfl
    have m1 := cell_of hf.h3 (i := 1) (u := .int .i64 0) rfl
    have m2 := cell_of hf.h3 (i := 2) (u := .slice none 0 0) rfl
    have m3 := cell_of hf.h3 (i := 3) (u := .slice none 0 0) rfl
    have g0 := frozen_of hf.h3 0
    have g1 := frozen_of hf.h3 1
    have g2 := frozen_of hf.h3 2
    have g3 := frozen_of hf.h3 3
    have HX3 := Lib.hid (HX1.out.trans hx3)
    have HF3 := Lib.hid hf
    clear hw3 hz7 hx2 hf a0 a1 a2 e1 e2 HP1
    obtain ⟨q, hq⟩ : ∃ q : Int, line - 1 = q := ⟨_, rfl⟩
    obtain ⟨hb1, hb2⟩ := HPL.out p hps
    have e7 := Lay.row_len hr7
    have e8 := Lay.row_len hr8
    have hn7 : n7 ≤ 1000 := by omega
    have hn8 : n8 ≤ 1000 := by omega
    have HE := Lib.hid (And.intro e7 e8)
    have HPS := Lib.hid hps
    have h23 : Ext w2 w3 := hw23
    have HR7 := Lib.hid (Lay.row_ext hr7 h23)
    have HR8 := Lib.hid (Lay.row_ext hr8 h23)
    have p0 := cell_of hp3 (i := 0) (u := .int .i64 p.num) rfl
    have p1 := cell_of hp3 (i := 1) (u := .int .i64 p.suf) rfl
    have p2 := cell_of hp3 (i := 2) (u := .int .i64 p.ent) rfl
    have p3 := cell_of hp3 (i := 3) (u := .int .i64 p.ver) rfl
    have p4 := cell_of hp3 (i := 4) (u := .slice A7 n7 c7) rfl
    have p5 := cell_of hp3 (i := 5) (u := .slice A8 n8 c8) rfl
    clear hps hx3 hp3 h23 hw23 hr7 hr8 e7 e8 hb1 hb2 HPL hq
    by_cases hl : line < 1
    · have HC := Lib.hid (show citP b n s line = none by unfold citP; rw [HPS.out]; exact if_pos hl)
      have hlb : decide (line < 1) = true := decide_eq_true hl
      go_wp2_with fail
      obtain ⟨Y, hY⟩ : ∃ Y, ((((((((((w3.setCell ⟨z2, 0, none⟩ (.int .i64 0)).setCell ⟨z2, 1, none⟩ (.int .i64 0)).setCell ⟨z2, 2, none⟩ (.int .i64 0)).setCell ⟨z2, 3, none⟩ (.int .i64 0)).setCell ⟨z2, 4, none⟩ (.slice none 0 0)).setCell ⟨z2, 5, none⟩ (.slice none 0 0)).setCell ⟨z3, 0, none⟩ (.int .i64 0)).setCell ⟨z3, 1, none⟩ (.int .i64 0)).setCell ⟨z3, 2, none⟩ (.slice none 0 0)).setCell ⟨z3, 3, none⟩ (.slice none 0 0)) = Y := ⟨_, rfl⟩
      have hs := st10 hne HF3.out.h2 HF3.out.h3 (.int .i64 0) (.int .i64 0) (.int .i64 0) (.int .i64 0) (.slice none 0 0) (.slice none 0 0) (.int .i64 0) (.int .i64 0) (.slice none 0 0) (.slice none 0 0)
      rw [hY] at hs ⊢
      have t0 := cell_of hs.h2 (i := 0) rfl
      have t1 := cell_of hs.h2 (i := 1) rfl
      have t2 := cell_of hs.h2 (i := 2) rfl
      have t3 := cell_of hs.h2 (i := 3) rfl
      have t4 := cell_of hs.h2 (i := 4) rfl
      have t5 := cell_of hs.h2 (i := 5) rfl
      have s0 := cell_of hs.h3 (i := 0) rfl
      have s1 := cell_of hs.h3 (i := 1) rfl
      have s2 := cell_of hs.h3 (i := 2) rfl
      have s3 := cell_of hs.h3 (i := 3) rfl
      refine bodyPost_ret (v := .tuple #[.agg #[.int .i64 0, .int .i64 0, .int .i64 0, .int .i64 0, .slice none 0 0, .slice none 0 0], .agg #[.int .i64 0, .int .i64 0, .slice none 0 0, .slice none 0 0], .bool false]) (by simp [results, Tryz.results45, go_sem, t0, t1, t2, t3, t4, t5, s0, s1, s2, s3]) rfl ?_
      exact ⟨hs.ext w HZ.out.1 HZ.out.2 HX3.out, .inl ⟨HC.out, rfl⟩⟩
    obtain ⟨i, hi⟩ : ∃ i : Nat, line = (i : Int) + 1 := ⟨(line - 1).toNat, by omega⟩
    subst hi
    have HI := Lib.hid (show ((i : Int) + 1 - 1).toNat = i by omega)
    have HC := Lib.hid (show citP b n s ((i : Int) + 1) = ((p.body ++ p.nts)[i]?).map fun x => (p, x) by
      unfold citP; rw [HPS.out, Option.bind_some, if_neg hl, HI.out])
    have hi0 : ¬ (i : Int) + 1 < 1 := by omega
    have hi0b : decide ((i : Int) + 1 < 1) = false := decide_eq_false hi0
    by_cases h7 : i < n7
    · have gI : decide ((i : Int) + 1 ≤ (n7 : Int)) = true := by rw [decide_eq_true_eq]; omega
      have gI3 : (i : Int) + 1 ≤ (n7 : Int) := by omega
      have gN : ¬ ((n7 : Int) + (n8 : Int) < (i : Int) + 1) := by omega
      have gNb : decide ((n7 : Int) + (n8 : Int) < (i : Int) + 1) = false := decide_eq_false gN
      have gW : IntKind.i64.wrap ((i : Int) + 1 - 1) = (i : Int) := by rw [Int.add_sub_cancel]; exact IntWalk.i64_in _ (by omega)
      have gW2 : IntKind.i64.wrap (i : Int) = (i : Int) := IntWalk.i64_in _ (by omega)
      have hI : ((i : Nat) : Int) < (n7 : Int) := by omega
      obtain ⟨x, hx⟩ : ∃ x, p.body[i]? = some x := ⟨_, List.getElem?_eq_getElem (by have := HE.out.1; have := HE.out.2; omega)⟩
      obtain ⟨bl, ol, cl, rfl, hbl, hPl, hrl, hcl⟩ := Lay.row_at HR7.out hx
      obtain ⟨B1, m1', l1, B2, m2', l2, rfl, hm1, hm2, hg1, hg2⟩ := kLn_rep.1 hrl
      have y0 := hcl 0 _ rfl
      have y1 := hcl 1 _ rfl
      have y2 := hcl 2 _ rfl
      have y3 := hcl 3 _ rfl
      rw [kLn_sz] at y0 y1 y2 y3
      rw [Nat.add_zero] at y0
      have hl2 : bl ≠ z2 := by have := lt_of_block HF.out.h2; omega
      have hl3 : bl ≠ z3 := by have := lt_of_block HF.out.h3; omega
      have hl2' : z2 ≠ bl := fun e => hl2 e.symm
      have hl3' : z3 ≠ bl := fun e => hl3 e.symm
      have HCX := Lib.hid (show citP b n s ((i : Int) + 1) = some (p, x) by rw [HC.out, List.getElem?_append_left (by have := HE.out.1; omega), hx]; rfl)
      have HG := Lib.hid (And.intro hg1 hg2)
      clear hrl hcl hx hg1 hg2
      go_upto_region 5 with (fail)
      go_region_held3 (fun W => W.cell? ⟨z1, 3, none⟩ = some (.int .i64 ((i : Int) + 1)) ∧ W.cell? ⟨z7, 0, none⟩ = some (.int .i64 p.num) ∧ W.cell? ⟨z7, 1, none⟩ = some (.int .i64 p.suf) ∧ W.cell? ⟨z7, 2, none⟩ = some (.int .i64 p.ent) ∧ W.cell? ⟨z7, 3, none⟩ = some (.int .i64 p.ver) ∧ W.cell? ⟨z7, 4, none⟩ = some (.slice (some ⟨bl, ol, none⟩) n7 c7) ∧ W.cell? ⟨z7, 5, none⟩ = some (.slice A8 n8 c8) ∧ W.cell? ⟨bl, ol + i * 4, none⟩ = some (.int .i64 x.fr) ∧ W.cell? ⟨bl, ol + i * 4 + 1, none⟩ = some (.int .i64 x.un) ∧ W.cell? ⟨bl, ol + i * 4 + 2, none⟩ = some (.slice B1 m1' l1) ∧ W.cell? ⟨bl, ol + i * 4 + 3, none⟩ = some (.slice B2 m2' l2)) (go_keep) (fail)
      obtain ⟨Y, hY⟩ : ∃ Y, ((((((((((w3.setCell ⟨z2, 0, none⟩ (.int .i64 p.num)).setCell ⟨z2, 1, none⟩ (.int .i64 p.suf)).setCell ⟨z2, 2, none⟩ (.int .i64 p.ent)).setCell ⟨z2, 3, none⟩ (.int .i64 p.ver)).setCell ⟨z2, 4, none⟩ (.slice (some ⟨bl, ol, none⟩) n7 c7)).setCell ⟨z2, 5, none⟩ (.slice A8 n8 c8)).setCell ⟨z3, 0, none⟩ (.int .i64 x.fr)).setCell ⟨z3, 1, none⟩ (.int .i64 x.un)).setCell ⟨z3, 2, none⟩ (.slice B1 m1' l1)).setCell ⟨z3, 3, none⟩ (.slice B2 m2' l2)) = Y := ⟨_, rfl⟩
      have hs := st10 hne HF3.out.h2 HF3.out.h3 (.int .i64 p.num) (.int .i64 p.suf) (.int .i64 p.ent) (.int .i64 p.ver) (.slice (some ⟨bl, ol, none⟩) n7 c7) (.slice A8 n8 c8) (.int .i64 x.fr) (.int .i64 x.un) (.slice B1 m1' l1) (.slice B2 m2' l2)
      rw [hY] at hs ⊢
      have h2d : (Y.drew).heap[z2]? = _ := hs.h2
      have h3d : (Y.drew).heap[z3]? = _ := hs.h3
      have t0 := cell_of h2d (i := 0) rfl
      have t1 := cell_of h2d (i := 1) rfl
      have t2 := cell_of h2d (i := 2) rfl
      have t3 := cell_of h2d (i := 3) rfl
      have t4 := cell_of h2d (i := 4) rfl
      have t5 := cell_of h2d (i := 5) rfl
      have s0 := cell_of h3d (i := 0) rfl
      have s1 := cell_of h3d (i := 1) rfl
      have s2 := cell_of h3d (i := 2) rfl
      have s3 := cell_of h3d (i := 3) rfl
      go_wp2_with fail
      refine bodyPost_ret (v := .tuple #[.agg #[.int .i64 p.num, .int .i64 p.suf, .int .i64 p.ent, .int .i64 p.ver, .slice (some ⟨bl, ol, none⟩) n7 c7, .slice A8 n8 c8], .agg #[.int .i64 x.fr, .int .i64 x.un, .slice B1 m1' l1, .slice B2 m2' l2], .bool true]) (by simp [results, Tryz.results45, go_sem, t0, t1, t2, t3, t4, t5, s0, s1, s2, s3]) rfl ?_
      have hkp : ∀ j, w1.heap.size ≤ j → Y.heap[j]? = w3.heap[j]? := fun j hj => hs.keep j (by have := lt_of_block HF.out.h2; omega) (by have := lt_of_block HF.out.h3; omega)
      exact ⟨(hs.ext w HZ.out.1 HZ.out.2 HX3.out).drew, .inr ⟨p, x, _, _, _, _, _, _, _, _, _, _, _, _, HCX.out, rfl, hc7, hc8, Lay.row_mono (Lay.row_keep HR7.out (by show w3.heap.size ≤ Y.heap.size; rw [hs.size]; exact Nat.le_refl _) fun j hj _ => hkp j hj) fun j hj _ => Nat.le_trans HX1.out.lt hj, Lay.row_mono (Lay.row_keep HR8.out (by show w3.heap.size ≤ Y.heap.size; rw [hs.size]; exact Nat.le_refl _) fun j hj _ => hkp j hj) fun j hj _ => Nat.le_trans HX1.out.lt hj,
        Lay.row_mono (Lay.row_keep HG.out.1 (by show w3.heap.size ≤ Y.heap.size; rw [hs.size]; exact Nat.le_refl _) fun j hj _ => hkp j hj) fun j hj _ => Nat.le_trans HX1.out.lt hj, Lay.row_mono (Lay.row_keep HG.out.2 (by show w3.heap.size ≤ Y.heap.size; rw [hs.size]; exact Nat.le_refl _) fun j hj _ => hkp j hj) fun j hj _ => Nat.le_trans HX1.out.lt hj, hm1, hm2⟩⟩
    obtain ⟨k, rfl⟩ : ∃ k, i = n7 + k := ⟨i - n7, by omega⟩
    rw [Int.natCast_add] at e3 HC hi0 hi0b ⊢
    have gI : decide ((n7 : Int) + (k : Int) + 1 ≤ (n7 : Int)) = false := by rw [decide_eq_false_iff_not]; omega
    have hnI : ¬ (n7 : Int) + (k : Int) + 1 ≤ (n7 : Int) := by omega
    by_cases h8 : k < n8
    · have gJ : decide ((n7 : Int) + (n8 : Int) < (n7 : Int) + (k : Int) + 1) = false := by rw [decide_eq_false_iff_not]; omega
      have hJ : ¬ (n7 : Int) + (n8 : Int) < (n7 : Int) + (k : Int) + 1 := by omega
      have gW : IntKind.i64.wrap ((n7 : Int) + (k : Int) + 1 - 1) = (n7 : Int) + (k : Int) := by rw [Int.add_sub_cancel]; exact IntWalk.i64_in _ (by omega)
      have gW2 : IntKind.i64.wrap ((n7 : Int) + (k : Int)) = (n7 : Int) + (k : Int) := IntWalk.i64_in _ (by omega)
      have gW3 : IntKind.i64.wrap (k : Int) = (k : Int) := IntWalk.i64_in _ (by omega)
      have hI : ((k : Nat) : Int) < (n8 : Int) := by omega
      obtain ⟨x, hx⟩ : ∃ x, p.nts[k]? = some x := ⟨_, List.getElem?_eq_getElem (by have := HE.out.1; have := HE.out.2; omega)⟩
      obtain ⟨bl, ol, cl, rfl, hbl, hPl, hrl, hcl⟩ := Lay.row_at HR8.out hx
      obtain ⟨B1, m1', l1, B2, m2', l2, rfl, hm1, hm2, hg1, hg2⟩ := kLn_rep.1 hrl
      have y0 := hcl 0 _ rfl
      have y1 := hcl 1 _ rfl
      have y2 := hcl 2 _ rfl
      have y3 := hcl 3 _ rfl
      rw [kLn_sz] at y0 y1 y2 y3
      rw [Nat.add_zero] at y0
      have hl2 : bl ≠ z2 := by have := lt_of_block HF.out.h2; omega
      have hl3 : bl ≠ z3 := by have := lt_of_block HF.out.h3; omega
      have hl2' : z2 ≠ bl := fun e => hl2 e.symm
      have hl3' : z3 ≠ bl := fun e => hl3 e.symm
      have HCX := Lib.hid (show citP b n s ((n7 : Int) + (k : Int) + 1) = some (p, x) by rw [HC.out, List.getElem?_append_right (by have := HE.out.1; omega), show n7 + k - p.body.length = k by have := HE.out.1; omega, hx]; rfl)
      have HG := Lib.hid (And.intro hg1 hg2)
      clear hrl hcl hx hg1 hg2 h7
      go_upto_region 6 with (fail)
      have gS : IntKind.i64.wrap ((n7 : Int) + (k : Int) - (n7 : Int)) = (k : Int) := by rw [show (n7 : Int) + (k : Int) - (n7 : Int) = (k : Int) by omega]; exact IntWalk.i64_in _ (by omega)
      go_region_held3 (fun W => W.cell? ⟨z1, 3, none⟩ = some (.int .i64 ((n7 : Int) + (k : Int) + 1)) ∧ W.cell? ⟨z7, 0, none⟩ = some (.int .i64 p.num) ∧ W.cell? ⟨z7, 1, none⟩ = some (.int .i64 p.suf) ∧ W.cell? ⟨z7, 2, none⟩ = some (.int .i64 p.ent) ∧ W.cell? ⟨z7, 3, none⟩ = some (.int .i64 p.ver) ∧ W.cell? ⟨z7, 4, none⟩ = some (.slice A7 n7 c7) ∧ W.cell? ⟨z7, 5, none⟩ = some (.slice (some ⟨bl, ol, none⟩) n8 c8) ∧ W.cell? ⟨bl, ol + k * 4, none⟩ = some (.int .i64 x.fr) ∧ W.cell? ⟨bl, ol + k * 4 + 1, none⟩ = some (.int .i64 x.un) ∧ W.cell? ⟨bl, ol + k * 4 + 2, none⟩ = some (.slice B1 m1' l1) ∧ W.cell? ⟨bl, ol + k * 4 + 3, none⟩ = some (.slice B2 m2' l2)) (go_keep) (fail)
      obtain ⟨Y, hY⟩ : ∃ Y, ((((((((((w3.setCell ⟨z2, 0, none⟩ (.int .i64 p.num)).setCell ⟨z2, 1, none⟩ (.int .i64 p.suf)).setCell ⟨z2, 2, none⟩ (.int .i64 p.ent)).setCell ⟨z2, 3, none⟩ (.int .i64 p.ver)).setCell ⟨z2, 4, none⟩ (.slice A7 n7 c7)).setCell ⟨z2, 5, none⟩ (.slice (some ⟨bl, ol, none⟩) n8 c8)).setCell ⟨z3, 0, none⟩ (.int .i64 x.fr)).setCell ⟨z3, 1, none⟩ (.int .i64 x.un)).setCell ⟨z3, 2, none⟩ (.slice B1 m1' l1)).setCell ⟨z3, 3, none⟩ (.slice B2 m2' l2)) = Y := ⟨_, rfl⟩
      have hs := st10 hne HF3.out.h2 HF3.out.h3 (.int .i64 p.num) (.int .i64 p.suf) (.int .i64 p.ent) (.int .i64 p.ver) (.slice A7 n7 c7) (.slice (some ⟨bl, ol, none⟩) n8 c8) (.int .i64 x.fr) (.int .i64 x.un) (.slice B1 m1' l1) (.slice B2 m2' l2)
      rw [hY] at hs ⊢
      have h2d : (Y.drew).heap[z2]? = _ := hs.h2
      have h3d : (Y.drew).heap[z3]? = _ := hs.h3
      have t0 := cell_of h2d (i := 0) rfl
      have t1 := cell_of h2d (i := 1) rfl
      have t2 := cell_of h2d (i := 2) rfl
      have t3 := cell_of h2d (i := 3) rfl
      have t4 := cell_of h2d (i := 4) rfl
      have t5 := cell_of h2d (i := 5) rfl
      have s0 := cell_of h3d (i := 0) rfl
      have s1 := cell_of h3d (i := 1) rfl
      have s2 := cell_of h3d (i := 2) rfl
      have s3 := cell_of h3d (i := 3) rfl
      go_wp2_with fail
      refine bodyPost_ret (v := .tuple #[.agg #[.int .i64 p.num, .int .i64 p.suf, .int .i64 p.ent, .int .i64 p.ver, .slice A7 n7 c7, .slice (some ⟨bl, ol, none⟩) n8 c8], .agg #[.int .i64 x.fr, .int .i64 x.un, .slice B1 m1' l1, .slice B2 m2' l2], .bool true]) (by simp [results, Tryz.results45, go_sem, t0, t1, t2, t3, t4, t5, s0, s1, s2, s3]) rfl ?_
      have hkp : ∀ j, w1.heap.size ≤ j → Y.heap[j]? = w3.heap[j]? := fun j hj => hs.keep j (by have := lt_of_block HF.out.h2; omega) (by have := lt_of_block HF.out.h3; omega)
      exact ⟨(hs.ext w HZ.out.1 HZ.out.2 HX3.out).drew, .inr ⟨p, x, _, _, _, _, _, _, _, _, _, _, _, _, HCX.out, rfl, hc7, hc8, Lay.row_mono (Lay.row_keep HR7.out (by show w3.heap.size ≤ Y.heap.size; rw [hs.size]; exact Nat.le_refl _) fun j hj _ => hkp j hj) fun j hj _ => Nat.le_trans HX1.out.lt hj, Lay.row_mono (Lay.row_keep HR8.out (by show w3.heap.size ≤ Y.heap.size; rw [hs.size]; exact Nat.le_refl _) fun j hj _ => hkp j hj) fun j hj _ => Nat.le_trans HX1.out.lt hj,
        Lay.row_mono (Lay.row_keep HG.out.1 (by show w3.heap.size ≤ Y.heap.size; rw [hs.size]; exact Nat.le_refl _) fun j hj _ => hkp j hj) fun j hj _ => Nat.le_trans HX1.out.lt hj, Lay.row_mono (Lay.row_keep HG.out.2 (by show w3.heap.size ≤ Y.heap.size; rw [hs.size]; exact Nat.le_refl _) fun j hj _ => hkp j hj) fun j hj _ => Nat.le_trans HX1.out.lt hj, hm1, hm2⟩⟩
    have gJ : decide ((n7 : Int) + (n8 : Int) < (n7 : Int) + (k : Int) + 1) = true := by rw [decide_eq_true_eq]; omega
    have hJ : (n7 : Int) + (n8 : Int) < (n7 : Int) + (k : Int) + 1 := by omega
    have HC0 := Lib.hid (show citP b n s ((n7 : Int) + (k : Int) + 1) = none by rw [HC.out, List.getElem?_eq_none (by rw [List.length_append]; have := HE.out.1; have := HE.out.2; omega)]; rfl)
    clear h7
    go_wp2_with fail
    obtain ⟨Y, hY⟩ : ∃ Y, ((((((((((w3.setCell ⟨z2, 0, none⟩ (.int .i64 0)).setCell ⟨z2, 1, none⟩ (.int .i64 0)).setCell ⟨z2, 2, none⟩ (.int .i64 0)).setCell ⟨z2, 3, none⟩ (.int .i64 0)).setCell ⟨z2, 4, none⟩ (.slice none 0 0)).setCell ⟨z2, 5, none⟩ (.slice none 0 0)).setCell ⟨z3, 0, none⟩ (.int .i64 0)).setCell ⟨z3, 1, none⟩ (.int .i64 0)).setCell ⟨z3, 2, none⟩ (.slice none 0 0)).setCell ⟨z3, 3, none⟩ (.slice none 0 0)) = Y := ⟨_, rfl⟩
    have hs := st10 hne HF3.out.h2 HF3.out.h3 (.int .i64 0) (.int .i64 0) (.int .i64 0) (.int .i64 0) (.slice none 0 0) (.slice none 0 0) (.int .i64 0) (.int .i64 0) (.slice none 0 0) (.slice none 0 0)
    rw [hY] at hs ⊢
    have h2d : (Y).heap[z2]? = _ := hs.h2
    have h3d : (Y).heap[z3]? = _ := hs.h3
    have t0 := cell_of h2d (i := 0) rfl
    have t1 := cell_of h2d (i := 1) rfl
    have t2 := cell_of h2d (i := 2) rfl
    have t3 := cell_of h2d (i := 3) rfl
    have t4 := cell_of h2d (i := 4) rfl
    have t5 := cell_of h2d (i := 5) rfl
    have s0 := cell_of h3d (i := 0) rfl
    have s1 := cell_of h3d (i := 1) rfl
    have s2 := cell_of h3d (i := 2) rfl
    have s3 := cell_of h3d (i := 3) rfl
    refine bodyPost_ret (v := .tuple #[.agg #[.int .i64 0, .int .i64 0, .int .i64 0, .int .i64 0, .slice none 0 0, .slice none 0 0], .agg #[.int .i64 0, .int .i64 0, .slice none 0 0, .slice none 0 0], .bool false]) (by simp [results, Tryz.results45, go_sem, t0, t1, t2, t3, t4, t5, s0, s1, s2, s3]) rfl ?_
    exact ⟨hs.ext w HZ.out.1 HZ.out.2 HX3.out, .inl ⟨HC0.out, rfl⟩⟩
end Go.Proofs.YtdbnddmncbjobaaGreatDoor

/- cite.Find at the least number of a line: walked (printed by genvr0.py). -/
namespace Go.Proofs.YtdbnddmncbjobaaGreatDoor
open Go Go.RowKit

set_option maxHeartbeats 4000000 in
set_option maxRecDepth 100000 in
theorem find_min (P : Nat → Prop) (w : World) (b : Bk) (br n s : Int) (A : Option Addr) (N c : Nat) (hb : BkI b) (hr : kSe.row w P A N b.secs) (hL : EnvW w) :
    Calls Tryz.prog 44 #[.agg #[.int .i64 b.ms, .int .i64 b.ht, .slice A N c], .agg #[.int .i64 br, .int .i64 n, .int .i64 s, .int .i64 (-9223372036854775808)]] w (FindPost w b n s (-9223372036854775808)) := by
  have HPG := Lib.hid (fun (X : World) (hX : Ext w X) => page_any P X b n s A N c hb (Lay.row_ext hr hX) (hL.ext hX))
  have HPL := Lib.hid (fun p (hp : pageP b n s = some p) => page_ln hb hp)
  clear hb hr hL
  go_enter Tryz.func44, Tryz.ntmps44
  go_upto_region 1 with (fail)
  obtain ⟨w1, hw1⟩ : ∃ w1, (((w.alloc (.cells #[.int .i64 b.ms, .int .i64 b.ht, .slice A N c] 27)).alloc (.cells #[.int .i64 br, .int .i64 n, .int .i64 s, .int .i64 (-9223372036854775808)] 69)).alloc (.cells #[.int .i64 0, .int .i64 0, .int .i64 0, .int .i64 0, .slice none 0 0, .slice none 0 0] 84)).alloc (.cells #[.int .i64 0, .int .i64 0, .slice none 0 0, .slice none 0 0] 86) = w1 := ⟨_, rfl⟩
  obtain ⟨z0, hz0⟩ : ∃ z, w.heap.size = z := ⟨_, rfl⟩
  have hx1 : Ext w w1 := by rw [← hw1]; exact ((((Ext.refl w).alloc _).alloc _).alloc _).alloc _
  have h0 : w1.heap[z0]? = some (.cells #[.int .i64 b.ms, .int .i64 b.ht, .slice A N c] 27 (0, 0)) := by rw [← hw1, ← hz0, heap_alloc_old _ _ _ (by simp <;> omega), heap_alloc_old _ _ _ (by simp <;> omega), heap_alloc_old _ _ _ (by simp)]; exact heap_alloc_at _ _ _ _ rfl
  have h1 : w1.heap[z0 + 1]? = some (.cells #[.int .i64 br, .int .i64 n, .int .i64 s, .int .i64 (-9223372036854775808)] 69 (0, 0)) := by rw [← hw1, ← hz0, heap_alloc_old _ _ _ (by simp <;> omega), heap_alloc_old _ _ _ (by simp)]; exact heap_alloc_at _ _ _ _ (by simp)
  have hF : FiR (z0 + 1 + 1) (z0 + 1 + 1 + 1) w1 := by
    refine ⟨?_, ?_⟩
    · rw [← hw1, ← hz0, heap_alloc_old _ _ _ (by simp)]; exact heap_alloc_at _ _ _ _ (by simp)
    · rw [← hw1, ← hz0]; exact heap_alloc_at _ _ _ _ (by simp)
  obtain ⟨z3, hz3⟩ : ∃ z, z0 + 1 + 1 + 1 = z := ⟨_, rfl⟩
  obtain ⟨z2, hz2⟩ : ∃ z, z0 + 1 + 1 = z := ⟨_, rfl⟩
  obtain ⟨z1, hz1⟩ : ∃ z, z0 + 1 = z := ⟨_, rfl⟩
  rw [hz0]
  rw [hw1, hz3, hz2, hz1]
  rw [hz3, hz2] at hF
  rw [hz1] at h1
  have hne : z2 ≠ z3 := by omega
  have hne' : z3 ≠ z2 := by omega
  have HZ := Lib.hid (show w.heap.size ≤ z2 ∧ w.heap.size ≤ z3 by omega)
  have a0 := cell_of h0 (i := 0) (u := .int .i64 b.ms) rfl
  have a1 := cell_of h0 (i := 1) (u := .int .i64 b.ht) rfl
  have a2 := cell_of h0 (i := 2) (u := .slice A N c) rfl
  have e1 := cell_of h1 (i := 1) (u := .int .i64 n) rfl
  have e2 := cell_of h1 (i := 2) (u := .int .i64 s) rfl
  have H1 := Lib.hid h1
  have HF := Lib.hid hF
  have HX1 := Lib.hid hx1
  have HP1 := Lib.hid (HPG.out w1 hx1)
  clear h0 h1 hF hx1 hz0 hz1 hz2 hz3 hw1 HPG
  go_upto_region 2 with (first | (go_at_call 91; refine (HP1.out).mono ?_; rintro z w2 (⟨hpn, rfl, hx2⟩ | ⟨p, A7, n7, c7, A8, n8, c8, hps, rfl, hc7, hc8, hr7, hr8, hx2⟩)))
  · have hx3 : Ext w1 (w2.alloc (.cells #[.int .i64 0, .int .i64 0, .int .i64 0, .int .i64 0, .slice none 0 0, .slice none 0 0] 84)) := hx2.alloc _
    have hp3 := heap_alloc_new w2 (.cells #[.int .i64 0, .int .i64 0, .int .i64 0, .int .i64 0, .slice none 0 0, .slice none 0 0] 84)
    have hw23 := (Ext.refl w2).alloc (.cells #[.int .i64 0, .int .i64 0, .int .i64 0, .int .i64 0, .slice none 0 0, .slice none 0 0] 84)
    obtain ⟨w3, hw3⟩ : ∃ w3, w2.alloc (.cells #[.int .i64 0, .int .i64 0, .int .i64 0, .int .i64 0, .slice none 0 0, .slice none 0 0] 84) = w3 := ⟨_, rfl⟩
    obtain ⟨z7, hz7⟩ : ∃ z, w2.heap.size = z := ⟨_, rfl⟩
    rw [hw3] at hx3 hp3 hw23 ⊢
    rw [hz7] at hp3 ⊢
    have hn72 : z7 ≠ z2 := by have := lt_of_block HF.out.h2; have := hx2.lt; omega
    have hn73 : z7 ≠ z3 := by have := lt_of_block HF.out.h3; have := hx2.lt; omega
    have hn27 : z2 ≠ z7 := fun e => hn72 e.symm
    have hn37 : z3 ≠ z7 := fun e => hn73 e.symm
    have e3 := cell_of ((hx3.block _ (lt_of_block H1.out)).trans H1.out) (i := 3) (u := .int .i64 (-9223372036854775808)) rfl
    have hf := HF.out.ext hx3
    have k0 := cell_of hf.h2 (i := 0) (u := .int .i64 0) rfl
    have k1 := cell_of hf.h2 (i := 1) (u := .int .i64 0) rfl
    have k2 := cell_of hf.h2 (i := 2) (u := .int .i64 0) rfl
    have k3 := cell_of hf.h2 (i := 3) (u := .int .i64 0) rfl
    have k4 := cell_of hf.h2 (i := 4) (u := .slice none 0 0) rfl
    have k5 := cell_of hf.h2 (i := 5) (u := .slice none 0 0) rfl
    have f0 := frozen_of hf.h2 0
    have f1 := frozen_of hf.h2 1
    have f2 := frozen_of hf.h2 2
    have f3 := frozen_of hf.h2 3
    have f4 := frozen_of hf.h2 4
    have f5 := frozen_of hf.h2 5
    have m0 := cell_of hf.h3 (i := 0) (u := .int .i64 0) rfl
    have m1 := cell_of hf.h3 (i := 1) (u := .int .i64 0) rfl
    have m2 := cell_of hf.h3 (i := 2) (u := .slice none 0 0) rfl
    have m3 := cell_of hf.h3 (i := 3) (u := .slice none 0 0) rfl
    have g0 := frozen_of hf.h3 0
    have g1 := frozen_of hf.h3 1
    have g2 := frozen_of hf.h3 2
    have g3 := frozen_of hf.h3 3
    have HX3 := Lib.hid (HX1.out.trans hx3)
    have HF3 := Lib.hid hf
    clear hw3 hz7 hx2 hf a0 a1 a2 e1 e2 HP1
    have hq0 : IntKind.i64.wrap (-9223372036854775808 - 1) = 9223372036854775807 := by decide
    have hq1 : IntKind.i64.wrap (-9223372036854775809) = 9223372036854775807 := by decide
    have HC := Lib.hid (show citP b n s (-9223372036854775808) = none by unfold citP; rw [hpn]; rfl)
    clear hpn hx3 hp3 hw23
    go_wp2_with fail
    obtain ⟨Y, hY⟩ : ∃ Y, ((((((((((w3.setCell ⟨z2, 0, none⟩ (.int .i64 0)).setCell ⟨z2, 1, none⟩ (.int .i64 0)).setCell ⟨z2, 2, none⟩ (.int .i64 0)).setCell ⟨z2, 3, none⟩ (.int .i64 0)).setCell ⟨z2, 4, none⟩ (.slice none 0 0)).setCell ⟨z2, 5, none⟩ (.slice none 0 0)).setCell ⟨z3, 0, none⟩ (.int .i64 0)).setCell ⟨z3, 1, none⟩ (.int .i64 0)).setCell ⟨z3, 2, none⟩ (.slice none 0 0)).setCell ⟨z3, 3, none⟩ (.slice none 0 0)) = Y := ⟨_, rfl⟩
    have hs := st10 hne HF3.out.h2 HF3.out.h3 (.int .i64 0) (.int .i64 0) (.int .i64 0) (.int .i64 0) (.slice none 0 0) (.slice none 0 0) (.int .i64 0) (.int .i64 0) (.slice none 0 0) (.slice none 0 0)
    rw [hY] at hs ⊢
    have t0 := cell_of hs.h2 (i := 0) rfl
    have t1 := cell_of hs.h2 (i := 1) rfl
    have t2 := cell_of hs.h2 (i := 2) rfl
    have t3 := cell_of hs.h2 (i := 3) rfl
    have t4 := cell_of hs.h2 (i := 4) rfl
    have t5 := cell_of hs.h2 (i := 5) rfl
    have s0 := cell_of hs.h3 (i := 0) rfl
    have s1 := cell_of hs.h3 (i := 1) rfl
    have s2 := cell_of hs.h3 (i := 2) rfl
    have s3 := cell_of hs.h3 (i := 3) rfl
    refine bodyPost_ret (v := .tuple #[.agg #[.int .i64 0, .int .i64 0, .int .i64 0, .int .i64 0, .slice none 0 0, .slice none 0 0], .agg #[.int .i64 0, .int .i64 0, .slice none 0 0, .slice none 0 0], .bool false]) (by simp [results, Tryz.results44, go_sem, t0, t1, t2, t3, t4, t5, s0, s1, s2, s3]) rfl ?_
    exact ⟨hs.ext w HZ.out.1 HZ.out.2 HX3.out, .inl ⟨HC.out, rfl⟩⟩
  · have hx3 : Ext w1 (w2.alloc (.cells #[.int .i64 p.num, .int .i64 p.suf, .int .i64 p.ent, .int .i64 p.ver, .slice A7 n7 c7, .slice A8 n8 c8] 84)) := hx2.alloc _
    have hp3 := heap_alloc_new w2 (.cells #[.int .i64 p.num, .int .i64 p.suf, .int .i64 p.ent, .int .i64 p.ver, .slice A7 n7 c7, .slice A8 n8 c8] 84)
    have hw23 := (Ext.refl w2).alloc (.cells #[.int .i64 p.num, .int .i64 p.suf, .int .i64 p.ent, .int .i64 p.ver, .slice A7 n7 c7, .slice A8 n8 c8] 84)
    obtain ⟨w3, hw3⟩ : ∃ w3, w2.alloc (.cells #[.int .i64 p.num, .int .i64 p.suf, .int .i64 p.ent, .int .i64 p.ver, .slice A7 n7 c7, .slice A8 n8 c8] 84) = w3 := ⟨_, rfl⟩
    obtain ⟨z7, hz7⟩ : ∃ z, w2.heap.size = z := ⟨_, rfl⟩
    rw [hw3] at hx3 hp3 hw23 ⊢
    rw [hz7] at hp3 ⊢
    have hn72 : z7 ≠ z2 := by have := lt_of_block HF.out.h2; have := hx2.lt; omega
    have hn73 : z7 ≠ z3 := by have := lt_of_block HF.out.h3; have := hx2.lt; omega
    have hn27 : z2 ≠ z7 := fun e => hn72 e.symm
    have hn37 : z3 ≠ z7 := fun e => hn73 e.symm
    have e3 := cell_of ((hx3.block _ (lt_of_block H1.out)).trans H1.out) (i := 3) (u := .int .i64 (-9223372036854775808)) rfl
    have hf := HF.out.ext hx3
    have k0 := cell_of hf.h2 (i := 0) (u := .int .i64 0) rfl
    have k1 := cell_of hf.h2 (i := 1) (u := .int .i64 0) rfl
    have k2 := cell_of hf.h2 (i := 2) (u := .int .i64 0) rfl
    have k3 := cell_of hf.h2 (i := 3) (u := .int .i64 0) rfl
    have k4 := cell_of hf.h2 (i := 4) (u := .slice none 0 0) rfl
    have k5 := cell_of hf.h2 (i := 5) (u := .slice none 0 0) rfl
    have f0 := frozen_of hf.h2 0
    have f1 := frozen_of hf.h2 1
    have f2 := frozen_of hf.h2 2
    have f3 := frozen_of hf.h2 3
    have f4 := frozen_of hf.h2 4
    have f5 := frozen_of hf.h2 5
    have m0 := cell_of hf.h3 (i := 0) (u := .int .i64 0) rfl
    have m1 := cell_of hf.h3 (i := 1) (u := .int .i64 0) rfl
    have m2 := cell_of hf.h3 (i := 2) (u := .slice none 0 0) rfl
    have m3 := cell_of hf.h3 (i := 3) (u := .slice none 0 0) rfl
    have g0 := frozen_of hf.h3 0
    have g1 := frozen_of hf.h3 1
    have g2 := frozen_of hf.h3 2
    have g3 := frozen_of hf.h3 3
    have HX3 := Lib.hid (HX1.out.trans hx3)
    have HF3 := Lib.hid hf
    clear hw3 hz7 hx2 hf a0 a1 a2 e1 e2 HP1
    have hq0 : IntKind.i64.wrap (-9223372036854775808 - 1) = 9223372036854775807 := by decide
    have hq1 : IntKind.i64.wrap (-9223372036854775809) = 9223372036854775807 := by decide
    obtain ⟨hb1, hb2⟩ := HPL.out p hps
    have e7 := Lay.row_len hr7
    have e8 := Lay.row_len hr8
    have hn7 : n7 ≤ 1000 := by omega
    have hn8 : n8 ≤ 1000 := by omega
    have HE := Lib.hid (And.intro e7 e8)
    have HPS := Lib.hid hps
    have h23 : Ext w2 w3 := hw23
    have HR7 := Lib.hid (Lay.row_ext hr7 h23)
    have HR8 := Lib.hid (Lay.row_ext hr8 h23)
    have p0 := cell_of hp3 (i := 0) (u := .int .i64 p.num) rfl
    have p1 := cell_of hp3 (i := 1) (u := .int .i64 p.suf) rfl
    have p2 := cell_of hp3 (i := 2) (u := .int .i64 p.ent) rfl
    have p3 := cell_of hp3 (i := 3) (u := .int .i64 p.ver) rfl
    have p4 := cell_of hp3 (i := 4) (u := .slice A7 n7 c7) rfl
    have p5 := cell_of hp3 (i := 5) (u := .slice A8 n8 c8) rfl
    clear hps hx3 hp3 h23 hw23 hr7 hr8 e7 e8 hb1 hb2 HPL
    have HC := Lib.hid (show citP b n s (-9223372036854775808) = none by unfold citP; rw [HPS.out]; exact (Option.bind_some _ _).trans (if_pos (show (-9223372036854775808 : Int) < 1 by decide)))
    have hq2 : ¬ (9223372036854775807 : Int) < (n7 : Int) := by omega
    have hq3 : ¬ (9223372036854775807 : Int) < (n7 : Int) + (n8 : Int) := by omega
    have hq4 : decide ((9223372036854775807 : Int) < (n7 : Int)) = false := decide_eq_false hq2
    have hq5 : decide ((9223372036854775807 : Int) < (n7 : Int) + (n8 : Int)) = false := decide_eq_false hq3
    go_wp2_with fail
    obtain ⟨Y, hY⟩ : ∃ Y, ((((((((((w3.setCell ⟨z2, 0, none⟩ (.int .i64 0)).setCell ⟨z2, 1, none⟩ (.int .i64 0)).setCell ⟨z2, 2, none⟩ (.int .i64 0)).setCell ⟨z2, 3, none⟩ (.int .i64 0)).setCell ⟨z2, 4, none⟩ (.slice none 0 0)).setCell ⟨z2, 5, none⟩ (.slice none 0 0)).setCell ⟨z3, 0, none⟩ (.int .i64 0)).setCell ⟨z3, 1, none⟩ (.int .i64 0)).setCell ⟨z3, 2, none⟩ (.slice none 0 0)).setCell ⟨z3, 3, none⟩ (.slice none 0 0)) = Y := ⟨_, rfl⟩
    have hs := st10 hne HF3.out.h2 HF3.out.h3 (.int .i64 0) (.int .i64 0) (.int .i64 0) (.int .i64 0) (.slice none 0 0) (.slice none 0 0) (.int .i64 0) (.int .i64 0) (.slice none 0 0) (.slice none 0 0)
    rw [hY] at hs ⊢
    have t0 := cell_of hs.h2 (i := 0) rfl
    have t1 := cell_of hs.h2 (i := 1) rfl
    have t2 := cell_of hs.h2 (i := 2) rfl
    have t3 := cell_of hs.h2 (i := 3) rfl
    have t4 := cell_of hs.h2 (i := 4) rfl
    have t5 := cell_of hs.h2 (i := 5) rfl
    have s0 := cell_of hs.h3 (i := 0) rfl
    have s1 := cell_of hs.h3 (i := 1) rfl
    have s2 := cell_of hs.h3 (i := 2) rfl
    have s3 := cell_of hs.h3 (i := 3) rfl
    refine bodyPost_ret (v := .tuple #[.agg #[.int .i64 0, .int .i64 0, .int .i64 0, .int .i64 0, .slice none 0 0, .slice none 0 0], .agg #[.int .i64 0, .int .i64 0, .slice none 0 0, .slice none 0 0], .bool false]) (by simp [results, Tryz.results44, go_sem, t0, t1, t2, t3, t4, t5, s0, s1, s2, s3]) rfl ?_
    exact ⟨hs.ext w HZ.out.1 HZ.out.2 HX3.out, .inl ⟨HC.out, rfl⟩⟩
end Go.Proofs.YtdbnddmncbjobaaGreatDoor

/- The reference's SameInts and SameLines at rows of the same elements: walked. -/
namespace Go.Proofs.YtdbnddmncbjobaaGreatDoor
open Go Go.RowKit

def QuT (w : World) (e : Ending) (w' : World) : Prop := e = .returned (.bool true) ∧ ∃ m, w' = w.drewN m
def SmR (k : Nat) (w : World) (s5 : Value) (w' : World) : Prop := ∃ (i m : Nat), i ≤ k ∧ s5 = .int .i64 i ∧ w' = w.drewN m
theorem drewN_cat (w : World) (m x k : Nat) : (w.drewN (m + x)).drewN k = w.drewN (m + (x + k)) := by simp [World.drewN, Nat.add_assoc]
theorem Ext.of_drewN (w : World) (m : Nat) : Ext w (w.drewN m) := (Ext.refl w).drewN m
set_option maxHeartbeats 4000000 in
set_option maxRecDepth 100000 in
theorem sameI_any (P P' : Nat → Prop) (w : World) (A A' : Option Addr) (n n' c c' : Nat) (xs : List Int) (h1 : kInt.row w P A n xs) (h2 : kInt.row w P' A' n' xs) (hn : n ≤ 1000000) :
    Calls Tryz.prog 93 #[.slice A n c, .slice A' n' c'] w (QuT w) := by
  have hl := Lay.row_len h1
  obtain rfl : n' = n := by rw [Lay.row_len h2, hl]
  have HR1 := Lib.hid h1
  have HR2 := Lib.hid h2
  have HL := Lib.hid hl
  clear h1 h2 hl
  go_enter Tryz.func93, Tryz.ntmps93
  go_wp2_with fail
  go_loopw [5] (fun s5 w' => SmR n' w s5 w') (fun s5 _ => toM n' s5)
  case atStart => exact ⟨0, 0, by omega, rfl, rfl⟩
  case round =>
    obtain ⟨i, m, hi, rfl, rfl⟩ := hrel
    by_cases hlt : i < n'
    case neg =>
      obtain rfl : i = n' := by omega
      have hni : ¬ ((i : Int) < (i : Int)) := by omega
      go_wp2_with fail
      go_ret
      exact ⟨rfl, m, rfl⟩
    have hI : (i : Int) < (n' : Int) := by omega
    obtain ⟨x, hxi⟩ : ∃ x, xs[i]? = some x := ⟨_, List.getElem?_eq_getElem (by have := HL.out; omega)⟩
    obtain ⟨b, off, rfl, hb1, _, hcell⟩ := int_at HR1.out hxi
    obtain ⟨b', off', rfl, hb1', _, hcell'⟩ := int_at HR2.out hxi
    clear hxi
    go_wp2_with fail
    go_quiet (fail)
    go_wp2_with fail
    go_roundw
    case rel => exact ⟨i + 1, m + nq, by omega, by simp, by simp [World.drewN]⟩
    case measure => simp only [toM]; omega
set_option maxHeartbeats 4000000 in
set_option maxRecDepth 100000 in
theorem sameL_any (P P' : Nat → Prop) (w : World) (A A' : Option Addr) (n n' c c' : Nat) (xs : List Ln) (h1 : kLn.row w P A n xs) (h2 : kLn.row w P' A' n' xs) (hn : n ≤ 1000000) (hb : ∀ x ∈ xs, x.gaps.length ≤ 1000000 ∧ x.nts.length ≤ 1000000) :
    Calls Tryz.prog 46 #[.slice A n c, .slice A' n' c'] w (QuT w) := by
  have hl := Lay.row_len h1
  obtain rfl : n' = n := by rw [Lay.row_len h2, hl]
  have HR1 := Lib.hid h1
  have HR2 := Lib.hid h2
  have HL := Lib.hid hl
  have HB := Lib.hid hb
  clear h1 h2 hl hb
  go_enter Tryz.func46, Tryz.ntmps46
  go_wp2_with fail
  go_loopw [5, 6, 7] (fun s5 _ _ w' => SmR n' w s5 w') (fun s5 _ _ _ => toM n' s5)
  case atStart => exact ⟨0, 0, by omega, rfl, rfl⟩
  case round =>
    obtain ⟨i, m, hi, rfl, rfl⟩ := hrel
    by_cases hlt : i < n'
    case neg =>
      obtain rfl : i = n' := by omega
      have hni : ¬ ((i : Int) < (i : Int)) := by omega
      go_wp2_with fail
      go_ret
      exact ⟨rfl, m, rfl⟩
    have hI : (i : Int) < (n' : Int) := by omega
    obtain ⟨x, hxi⟩ : ∃ x, xs[i]? = some x := ⟨_, List.getElem?_eq_getElem (by have := HL.out; omega)⟩
    have hbx := HB.out x (List.mem_of_getElem? hxi)
    obtain ⟨b, off, cs, rfl, hb1, _, hrep, hcl⟩ := Lay.row_at HR1.out hxi
    obtain ⟨b', off', cs', rfl, hb1', _, hrep', hcl'⟩ := Lay.row_at HR2.out hxi
    obtain ⟨B1, m1, l1, B2, m2, l2, rfl, _, _, hg1, hg2⟩ := kLn_rep.1 hrep
    obtain ⟨B1', m1', l1', B2', m2', l2', rfl, _, _, hg1', hg2'⟩ := kLn_rep.1 hrep'
    have y0 := hcl 0 _ rfl
    have y1 := hcl 1 _ rfl
    have y2 := hcl 2 _ rfl
    have y3 := hcl 3 _ rfl
    have y0' := hcl' 0 _ rfl
    have y1' := hcl' 1 _ rfl
    have y2' := hcl' 2 _ rfl
    have y3' := hcl' 3 _ rfl
    rw [kLn_sz] at y0 y1 y2 y3 y0' y1' y2' y3'
    rw [Nat.add_zero] at y0 y0'
    have HG := Lib.hid (fun k => sameI_any P P' (w.drewN k) B1 B1' m1 m1' l1 l1' x.gaps (Lay.row_ext hg1 (Ext.of_drewN w k)) (Lay.row_ext hg1' (Ext.of_drewN w k)) (by have := Lay.row_len hg1; omega))
    have HN := Lib.hid (fun k => sameI_any P P' (w.drewN k) B2 B2' m2 m2' l2 l2' x.nts (Lay.row_ext hg2 (Ext.of_drewN w k)) (Lay.row_ext hg2' (Ext.of_drewN w k)) (by have := Lay.row_len hg2; omega))
    have y9 : (x.fr != x.fr) = false := by simp
    have y8 : (x.un != x.un) = false := by simp
    clear hxi hrep hrep' hcl hcl' hg1 hg2 hg1' hg2' hbx
    go_upto_region 6 with (fail)
    go_quiet (first | (go_at_call 93; refine (HG.out _).mono ?_; rintro e w1 ⟨rfl, k, rfl⟩; exact ⟨rfl, _, drewN_cat _ _ _ _⟩))
    go_upto_region 7 with (fail)
    go_quiet (first | (go_at_call 93; refine (HN.out _).mono ?_; rintro e w1 ⟨rfl, k, rfl⟩; exact ⟨rfl, _, drewN_cat _ _ _ _⟩))
    go_wp2_with fail
    go_quiet (fail)
    go_wp2_with fail
    go_roundw
    case rel => exact ⟨i + 1, _, by omega, by simp, rfl⟩
    case measure => simp only [toM]; omega
end Go.Proofs.YtdbnddmncbjobaaGreatDoor

/- The lines of a generated book's pages are short. -/
namespace Go.Proofs.YtdbnddmncbjobaaGreatDoor
open Go Go.RowKit

theorem notesOf_mem {R : Ln → Prop} {notes : List (List Ln)} (hn : ∀ ls ∈ notes, ∀ l ∈ ls, R l) (x : Ln) : ∀ l ∈ notesOf notes x, R l := by
  intro l hl
  unfold notesOf at hl
  rw [List.mem_flatMap] at hl
  obtain ⟨n, _, h1⟩ := hl
  cases h2 : notes[n.toNat]? with
  | none => rw [h2] at h1; simp at h1
  | some ls => rw [h2] at h1; exact hn ls (List.mem_of_getElem? h2) l h1
theorem fillP_mem {R : Ln → Prop} (h : Int) {notes : List (List Ln)} (hn : ∀ ls ∈ notes, ∀ l ∈ ls, R l) : ∀ (body q : List Ln) (lines : Nat) (shown : Int), (∀ l ∈ q, R l) → ∀ l ∈ (fillP h notes body q lines shown).2.1, R l := by
  intro body
  induction body with
  | nil => intro q lines shown hq l hl; exact hq l hl
  | cons x r ih =>
    intro q lines shown hq l hl
    unfold fillP at hl
    split at hl
    · exact ih _ _ _ (fun y hy => by
        rcases List.mem_append.1 hy with hy | hy
        · exact hq y hy
        · exact notesOf_mem hn x y hy) l hl
    · exact hq l hl
theorem setF_mem {R : Ln → Prop} (h : Int) {notes : List (List Ln)} (hn : ∀ ls ∈ notes, ∀ l ∈ ls, R l) : ∀ (f : Nat) (body q : List Ln), (∀ l ∈ body, R l) → (∀ l ∈ q, R l) → ∀ pg ∈ setF h notes f body q, ∀ l ∈ pg.1 ++ pg.2, R l := by
  intro f
  induction f with
  | zero => intro body q _ _ pg hp; simp [setF] at hp
  | succ f ih =>
    intro body q hb hq pg hp
    unfold setF at hp
    split at hp
    · simp at hp
    · have hm := fillP_mem h hn body q 0 (min (q.length : Int) (h - 1)) hq
      rcases List.mem_cons.1 hp with rfl | hp
      · intro l hl
        rcases List.mem_append.1 hl with hl | hl
        · exact hb l (List.mem_of_mem_take hl)
        · exact hm l (List.mem_of_mem_take hl)
      · exact ih _ _ (fun l hl => hb l (List.mem_of_mem_drop hl)) (fun l hl => hm l (List.mem_of_mem_drop hl)) pg hp
theorem textP_lns {t : Tx} {m h : Int} (hT : TxP t m h) : ∀ pg ∈ (textP t m h).2, ∀ l ∈ pg.1 ++ pg.2, l.gaps.length ≤ 1000000 ∧ l.nts.length ≤ 1000000 := by
  rw [hT.eq]
  unfold setPg
  rw [if_neg (by rw [hT.pg]; simp)]
  have hb : ∀ {L : List Ln}, LnsB L → ∀ l ∈ L, l.gaps.length ≤ 1000000 ∧ l.nts.length ≤ 1000000 := fun hl l h => by have := hl l h; omega
  exact setF_mem h (fun ls hls => hb (hT.lnn ls hls)) _ _ _ (hb hT.lnb) (fun l hl => by simp at hl)
theorem OkB.lns {b : Bk} {N V : Nat} (h : OkB b N V) : ∀ p ∈ pagesB b, (∀ l ∈ p.body, l.gaps.length ≤ 1000000 ∧ l.nts.length ≤ 1000000) ∧ (∀ l ∈ p.nts, l.gaps.length ≤ 1000000 ∧ l.nts.length ≤ 1000000) := by
  intro p hp
  have := pagesS_all (fun x y => ∀ l ∈ x ++ y, l.gaps.length ≤ 1000000 ∧ l.nts.length ≤ 1000000) b.ms b.ht b.secs 0 (fun x hx t ht q hq => textP_lns (txP_of (h.tx x hx t ht) h.m0 h.m1 h.h0 h.h1) q hq) p hp
  exact ⟨fun l hl => this l (List.mem_append_left _ hl), fun l hl => this l (List.mem_append_right _ hl)⟩
theorem cit_mem {b : Bk} {n s line : Int} {p : Pg} {x : Ln} (h : citP b n s line = some (p, x)) : p ∈ pagesB b ∧ (x ∈ p.body ∨ x ∈ p.nts) := by
  unfold citP at h
  cases hp : pageP b n s with
  | none => rw [hp] at h; cases h
  | some q =>
    rw [hp, Option.bind_some] at h
    split at h
    · cases h
    · cases hx : (q.body ++ q.nts)[(line - 1).toNat]? with
      | none => rw [hx] at h; cases h
      | some y =>
        rw [hx] at h
        simp only [Option.map_some, Option.some.injEq, Prod.mk.injEq] at h
        obtain ⟨rfl, rfl⟩ := h
        exact ⟨(page_mem hp).1, List.mem_append.1 (List.mem_of_getElem? hx)⟩
end Go.Proofs.YtdbnddmncbjobaaGreatDoor
