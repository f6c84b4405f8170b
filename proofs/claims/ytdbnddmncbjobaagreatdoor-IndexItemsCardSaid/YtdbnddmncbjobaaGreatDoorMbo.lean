/- The reference's Text: walked. -/
import Derived.Test.YtdbnddmncbjobaaGreatDoorMbn
namespace Go.Proofs.YtdbnddmncbjobaaGreatDoor
section
open Go Go.RowKit
set_option maxHeartbeats 4000000 in
set_option maxRecDepth 100000 in
theorem rtext2_any (P : Nat → Prop) (w : World) (t : Tx) (m h : Int) (A A' : Option Addr) (n n' c c' : Nat) (h1 : kWs.row w P A n t.paras) (h2 : kWs.row w P A' n' t.notes) (hT : TxP t m h) (hm0 : 500 ≤ m) (hm : m ≤ 2000) :
  Calls Tryz.prog 116 #[.agg #[.slice A n c, .slice A' n' c'], .int .i64 m, .int .i64 h] w (fun e w' => ∃ A1 c1, e = .returned (.tuple #[.slice A1 (textP t m h).2.length c1, .int .i64 0]) ∧
   kPg.own 84 w' w.heap.size (fun j => w.heap.size ≤ j) (.slice A1 (textP t m h).2.length c1) ((textP t m h).2.map pgOf) ∧ Ext w w') := by
 have HLI := Hd (fun X (hX : Ext w X) => rlines2_any P X t m A A' n n' c c' (Lay.row_ext h1 hX) (Lay.row_ext h2 hX) hT.chk hm0 hm)
 have HT := Hd hT
 obtain ⟨body, hb⟩ : ∃ b, (linesT t m).2.1 = b := ⟨_, rfl⟩
 obtain ⟨notes, hn⟩ : ∃ b, (linesT t m).2.2 = b := ⟨_, rfl⟩
 have HB := Hd hb
 have HN := Hd hn
 simp only [hb, hn] at HLI
 clear h1 h2 hT hb hn
 go_enter Tryz.func116, Tryz.ntmps116
 go_wp2_with fail
 refine (HLI.out _ ((Ext.refl w).alloc _)).mono ?_
 rintro e w1 ⟨A1, c1, A2, c2, rfl, ho1, ho2, hx1⟩
 have HX1 := Hd (((Ext.refl w).alloc (.cells #[.slice A n c, .slice A' n' c'] 53)).trans hx1)
 obtain ⟨Ab, cb, e1, hcb, hr1⟩ := own_rowN (Q := fun j => w.heap.size ≤ j) ho1 (fun j hj _ => by rw [World.size_alloc] at hj; omega) (fun j hj _ => by rw [World.size_alloc] at hj; omega)
 obtain ⟨An, cn, e2, _, hr2⟩ := own_rowN (Q := fun j => w.heap.size ≤ j) ho2 (fun j hj _ => by rw [World.size_alloc] at hj; omega) (fun j hj _ => by rw [World.size_alloc] at hj; omega)
 have e1a : A1 = Ab := by injection e1
 have e2a : A2 = An := by injection e2
 rw [← e1a] at hr1
 rw [← e2a] at hr2
 clear e1 e2 e1a e2a ho1 ho2 hcb
 have HPS := Hd (rset_any (fun j => w.heap.size ≤ j) (fun j => w.heap.size ≤ j) w1 A1 A2 body.length notes.length c1 c2 200 body notes h hr1 hr2 (by have := HT.out.pg; rwa [HB.out, HN.out] at this) (by have := HT.out.left; rwa [HB.out, HN.out] at this) (by omega) (by have := HT.out.nn; rw [HN.out] at this; omega) (by have := HT.out.lnb; rwa [HB.out] at this) (by have := HT.out.lnn; rwa [HN.out] at this) (by have := HT.out.nts; rwa [HB.out, HN.out] at this))
 have HEQ := Hd (show (setPg body notes h).2 = (textP t m h).2 by rw [HT.out.eq, HB.out, HN.out])
 rw [HEQ.out] at HPS
 clear hr1 hr2 hx1
 go_wp2_with fail
 refine HPS.out.mono ?_
 rintro e w2 ⟨A3, c3, rfl, ho3, hx3⟩
 have HO3 := Hd ho3
 have HX3 := Hd (HX1.out.trans hx3)
 clear ho3 hx3
 have hw1 := HX1.out.lt
 go_wp2_with fail
 go_ret2
 exact ⟨A3, c3, rfl, own_low HO3.out hw1, HX3.out⟩
end
section
def pgT (b : Bk) (i : Nat) (x : Se) (k : Nat) (v : Int) (first : Bool) (ps : List (List Ln × List Ln)) (n s : Int) : List Pg :=
 (pagesT x.ent v first ps n s).1 ++ ((pagesV b.ms b.ht x.ent (x.vers.drop (k + 1)) (x.texts.drop (k + 1)) false (pagesT x.ent v first ps n s).2.1 (pagesT x.ent v first ps n s).2.2).1 ++
  pagesS b.ms b.ht (b.secs.drop (i + 1)) (pagesV b.ms b.ht x.ent (x.vers.drop (k + 1)) (x.texts.drop (k + 1)) false (pagesT x.ent v first ps n s).2.1 (pagesT x.ent v first ps n s).2.2).2)
def pgV (b : Bk) (i : Nat) (x : Se) (k : Nat) (first : Bool) (n s : Int) : List Pg :=
 (pagesV b.ms b.ht x.ent (x.vers.drop k) (x.texts.drop k) first n s).1 ++ pagesS b.ms b.ht (b.secs.drop (i + 1)) (pagesV b.ms b.ht x.ent (x.vers.drop k) (x.texts.drop k) first n s).2
theorem pgS_V {b : Bk} {i : Nat} {x : Se} (h : b.secs[i]? = some x) (n : Int) : pagesS b.ms b.ht (b.secs.drop i) n = pgV b i x 0 true n 0 := by
 rw [dwl _ h]; rfl
theorem pgS_end {b : Bk} {i : Nat} (h : b.secs.length ≤ i) (n : Int) : pagesS b.ms b.ht (b.secs.drop i) n = [] := by
 rw [List.drop_of_length_le h]; rfl
theorem pgV_T {b : Bk} {i : Nat} {x : Se} {k : Nat} {v : Int} {t : Tx} (hv : x.vers[k]? = some v) (ht : x.texts[k]? = some t) (first : Bool) (n s : Int) : pgV b i x k first n s = pgT b i x k v first (textP t b.ms b.ht).2 n s := by
 unfold pgV pgT
 rw [dwl _ hv, dwl _ ht]
 simp only [pagesV, List.append_assoc]
theorem pgV_end {b : Bk} {i : Nat} {x : Se} {k : Nat} (h : x.texts.length ≤ k) (hv : x.vers.length = x.texts.length) (first : Bool) (n s : Int) : pgV b i x k first n s = pagesS b.ms b.ht (b.secs.drop (i + 1)) n := by
 unfold pgV
 rw [List.drop_of_length_le (l := x.vers) (by omega), List.drop_of_length_le h]
 simp [pagesV]
theorem pgT_end {b : Bk} {i : Nat} {x : Se} {k : Nat} {v : Int} (first : Bool) (n s : Int) : pgT b i x k v first [] n s = pgV b i x (k + 1) false n s := by
 unfold pgT pgV
 simp [pagesT]
theorem pgT_step {b : Bk} {i : Nat} {x : Se} {k : Nat} {v : Int} (first : Bool) (p : List Ln × List Ln) (ps : List (List Ln × List Ln)) (n s : Int) :
  pgT b i x k v first (p :: ps) n s = ⟨if first then n + 1 else n, if first then s else s + 1, x.ent, v, p.1, p.2⟩ :: pgT b i x k v first ps (if first then n + 1 else n) (if first then s else s + 1) := by
 unfold pgT
 simp only [pagesT, List.cons_append]
end
section
open Go Go.RowKit
structure Ow (w0 W1 : World) (ov1 : Value) (done : List Pg) (ov : Value) (W : World) : Prop where
 own : kPg.own 84 W w0.heap.size (fun j => w0.heap.size ≤ j) ov done
 ow : ∀ j, ov.ownBlock = some j → ov1.ownBlock = some j ∨ W1.heap.size ≤ j
 keep : ∀ j, j < W1.heap.size → ov1.ownBlock ≠ some j → W.heap[j]? = W1.heap[j]?
 size : W1.heap.size ≤ W.heap.size
 ext : Ext w0 W
theorem Ow.start {w0 W : World} {done : List Pg} {ov : Value} (h : kPg.own 84 W w0.heap.size (fun j => w0.heap.size ≤ j) ov done) (hx : Ext w0 W) : Ow w0 W ov done ov W := ⟨h, fun _ h => .inl h, fun _ _ _ => rfl, Nat.le_refl _, hx⟩
theorem Ow.mv {w0 W1 W W' : World} {ov1 ov : Value} {done : List Pg} (h : Ow w0 W1 ov1 done ov W) (hx : Ext W W') : Ow w0 W1 ov1 done ov W' :=
 ⟨Lay.own_ext h.own hx, h.ow, fun j hj ho => (hx.block j (Nat.lt_of_lt_of_le hj h.size)).trans (h.keep j hj ho), Nat.le_trans h.size hx.lt, h.ext.trans hx⟩
theorem Ow.comp {w0 W1 W W' : World} {ov1 ov ov' : Value} {d d' : List Pg} (h : Ow w0 W1 ov1 d ov W) (k : Ow w0 W ov d' ov' W') : Ow w0 W1 ov1 d' ov' W' := by
 refine ⟨k.own, fun j hj => ?_, fun j hj ho => ?_, Nat.le_trans h.size k.size, k.ext⟩
 ·rcases k.ow j hj with h1 | h1
  ·exact h.ow j h1
  ·exact .inr (Nat.le_trans h.size h1)
 ·refine (k.keep j (Nat.lt_of_lt_of_le hj h.size) fun e => ?_).trans (h.keep j hj ho)
  rcases h.ow j e with h1 | h1
  ·exact ho h1
  ·omega
theorem Ow.cell {w0 W1 W : World} {ov1 ov : Value} {d : List Pg} (h : Ow w0 W1 ov1 d ov W) {g i : Nat} {u : Value} (hc : W1.cell? ⟨g, i, none⟩ = some u) (hg : g < W1.heap.size) (ho : ov1.ownBlock ≠ some g) : W.cell? ⟨g, i, none⟩ = some u :=
 (World.cell?_of_block (a := ⟨g, i, none⟩) (h.keep g hg ho)).trans hc
theorem Ow.app {w0 W1 X : World} {ov1 ov : Value} {d : List Pg} (h : Ow w0 W1 ov1 d ov X) {p : Pg} {cs : Array Value} (hr : kPg.rep X (fun j => w0.heap.size ≤ j ∧ ov.ownBlock ≠ some j) p cs.toList) (hl : d.length < 10000000) :
  ∃ A' c' w', (Builtin.append_ #[106, 106] 106 #[ov, .slice (some ⟨X.heap.size, 0, none⟩) 1 1]).run Tryz.prog (X.alloc (.cells cs 84)) = .ok (.slice A' (d.length + 1) c') w' ∧ Ow w0 W1 ov1 (d ++ [p]) (.slice A' (d.length + 1) c') w' := by
 obtain ⟨A', c', w', r1, r2, r3, r4, r5, r6⟩ := own_app1 (k := kPg) (Pr := Tryz.prog) (t := 106) Tryz.underlying106 info84 rfl (by decide) (by omega) h.own h.ext.lt (cs := cs) (T := 84) (x := p) hr 1 (by omega)
 have hs := h.size
 refine ⟨A', c', w', r1, r2, fun j hj => ?_, fun j hj ho => ?_, Nat.le_trans h.size r5, Below.trans h.ext (r3 _ (Nat.le_refl _))⟩
 ·rcases r6 j hj with h1 | h1
  ·exact h.ow j h1
  ·exact .inr (by omega)
 ·refine (r4 j (by omega) fun e => ?_).trans (h.keep j hj ho)
  rcases h.ow j e with h1 | h1
  ·exact ho h1
  ·omega
def VgO (W0 : World) (b : Bk) (s3 s4 s5 : Value) (w' : World) : Prop := ∃ (i : Nat) (num : Int) (done : List Pg), i ≤ b.secs.length ∧ s5 = .int .i64 i ∧ s4 = .int .i64 num ∧ 0 ≤ num ∧ num ≤ done.length ∧ kPg.own 84 w' W0.heap.size (fun j => W0.heap.size ≤ j) s3 done ∧ Ext W0 w' ∧
 done ++ pagesS b.ms b.ht (b.secs.drop i) num = pagesB b
def VgM (W0 W1 : World) (ov1 : Value) (b : Bk) (i : Nat) (x : Se) (s3 s4 s7 s8 : Value) (w' : World) : Prop := ∃ (k : Nat) (num suf : Int) (done : List Pg), k ≤ x.texts.length ∧ s8 = .int .i64 k ∧ s4 = .int .i64 num ∧ s7 = .int .i64 suf ∧ (0 ≤ num ∧ num ≤ done.length) ∧ (0 ≤ suf ∧ suf ≤ done.length) ∧ Ow W0 W1 ov1 done s3 w' ∧
 done ++ pgV b i x k (decide (k = 0)) num suf = pagesB b
def VgI (W0 W3 : World) (ov3 : Value) (b : Bk) (i : Nat) (x : Se) (k : Nat) (v : Int) (ps : List (List Ln × List Ln)) (s3 s4 s7 s11 : Value) (w' : World) : Prop := ∃ (j : Nat) (num suf : Int) (done : List Pg), j ≤ ps.length ∧ s11 = .int .i64 j ∧ s4 = .int .i64 num ∧ s7 = .int .i64 suf ∧ (0 ≤ num ∧ num ≤ done.length) ∧ (0 ≤ suf ∧ suf ≤ done.length) ∧ Ow W0 W3 ov3 done s3 w' ∧
 done ++ pgT b i x k v (decide (k = 0)) (ps.drop j) num suf = pagesB b
set_option maxHeartbeats 16000000 in
set_option maxRecDepth 100000 in
theorem rpages_any (P : Nat → Prop) (w : World) (b : Bk) (A : Option Addr) (N c : Nat) (hb : BkI b) (hr : kSe.row w P A N b.secs) :
  Calls Tryz.prog 58 #[.agg #[.int .i64 b.ms, .int .i64 b.ht, .slice A N c]] w (ClPost w b) := by
 have HN := Hd (Lay.row_len hr)
 have HR := Hd hr
 have HBI := Hd hb
 have hNb : N ≤ 1000000 := by have := hb.s.n; have := Lay.row_len hr; omega
 clear hr hb
 go_enter Tryz.func58, Tryz.ntmps58
 go_upto_region 1 with (fail)
 obtain ⟨W0, hW0⟩ : ∃ W0, w.alloc (.cells #[.int .i64 b.ms, .int .i64 b.ht, .slice A N c] 27) = W0 := ⟨_, rfl⟩
 obtain ⟨z, hz⟩ : ∃ z, w.heap.size = z := ⟨_, rfl⟩
 have hx0 : Ext w W0 := by rw [← hW0]; exact (Ext.refl w).alloc _
 have hB0 : W0.heap[z]? = some (.cells #[.int .i64 b.ms, .int .i64 b.ht, .slice A N c] 27 (0, 0)) := by rw [← hW0, ← hz]; exact haA _ _ _ _ rfl
 rw [hW0, hz]
 have HX0 := Hd hx0
 have HCA := Hd (fun X (hX : Ext W0 X) => (show X.cell? ⟨z, 0, none⟩ = some (.int .i64 b.ms) ∧ X.cell? ⟨z, 1, none⟩ = some (.int .i64 b.ht) ∧ X.cell? ⟨z, 2, none⟩ = some (.slice A N c) from
  have h9 := (hX.block _ (lt_of_block hB0)).trans hB0
  ⟨cof h9 (i := 0) rfl, cof h9 (i := 1) rfl, cof h9 (i := 2) rfl⟩))
 clear hW0 hz hx0 hB0
 go_wp2_with fail
 go_loopw [3, 4, 5, 6, 7, 8, 9, 10, 11, 12] (fun s3 s4 s5 _ _ _ _ _ _ _ w' => VgO W0 b s3 s4 s5 w') (fun _ _ s5 _ _ _ _ _ _ _ _ => toM N s5)
 case atStart => exact ⟨0, 0, [], by omega, rfl, rfl, by omega, by simp, Lay.own_nil _ _ _ _ _, Ext.refl _, by simp [pagesB]⟩
 obtain ⟨i, num, done, hi, rfl, rfl, hn0, hn1, ho, hx, heq⟩ := hrel
 rename World => wr
 rw [← HN.out] at hi
 have HXR := Hd hx
 have HEQ := Hd heq
 have HO := Hd ho
 obtain ⟨c0, c1, c2⟩ := HCA.out _ hx
 have hdl : done.length ≤ 1000000 := by
  have h1 := congrArg List.length heq
  have h2 := HBI.out.np
  rw [List.length_append] at h1
  omega
 obtain ⟨A3, c3, e3, hc3, _⟩ := Lay.own_row ho
 subst e3
 clear ho hx heq
 by_cases hlt : i < N
 case neg =>
  obtain rfl : i = N := by omega
  have hni : ¬ ((i : Int) < (i : Int)) := by omega
  have HF := Hd (show done = pagesB b by
   have h9 := HEQ.out
   rwa [pgS_end (by have := HN.out; omega), List.append_nil] at h9)
  go_wp2_with fail
  go_ret
  obtain ⟨A9, c9, e9, h9, hr9⟩ := Lay.own_row HO.out
  rw [← (Value.slice.inj e9).1] at hr9
  refine ⟨A3, done.length, c3, rfl, hc3, hdl, ?_, HX0.out.trans HXR.out⟩
  rw [← HF.out]
  exact Lay.row_mono hr9 fun j hj _ => by
   rcases hj with hj | hj
   ·exact Nat.le_trans HX0.out.lt hj
   ·exact Nat.le_trans HX0.out.lt (Lay.own_lt HO.out j hj).1
 have hI : (i : Int) < (N : Int) := by omega
 obtain ⟨x, hxi⟩ : ∃ x, b.secs[i]? = some x := ⟨_, List.getElem?_eq_getElem (by have := HN.out; omega)⟩
 obtain ⟨bs, os, cs, rfl, hbs, _, hrep, hcell⟩ := Lay.row_at HR.out hxi
 obtain ⟨A1, n1, c1', A2, n2, c2', rfl, _, _, hr1, hr2⟩ := kSe_rep.1 hrep
 have y0 := (HX0.out.trans HXR.out).cells.1 bs (os + i * kSe.sz + 0) hbs |>.trans (hcell 0 _ rfl)
 have y1 := (HX0.out.trans HXR.out).cells.1 bs (os + i * kSe.sz + 1) hbs |>.trans (hcell 1 _ rfl)
 have y2 := (HX0.out.trans HXR.out).cells.1 bs (os + i * kSe.sz + 2) hbs |>.trans (hcell 2 _ rfl)
 have y3 := (HX0.out.trans HXR.out).cells.1 bs (os + i * kSe.sz + 3) hbs |>.trans (hcell 3 _ rfl)
 rw [kSe_sz] at y0 y1 y2 y3
 rw [Nat.add_zero] at y0
 have HR1 := Hd hr1
 have HR2 := Hd hr2
 have HVS := Hd (HBI.out.vs x (List.mem_of_getElem? hxi))
 have HTX := Hd (HBI.out.tx x (List.mem_of_getElem? hxi))
 have HLNB := Hd (HBI.out.ln x (List.mem_of_getElem? hxi))
 have HN1 := Hd (Lay.row_len hr1)
 have HN2 := Hd (Lay.row_len hr2)
 have hn2 : n2 ≤ 1000000 := by have := HBI.out.s.nt x (List.mem_of_getElem? hxi); have := HN2.out; omega
 have HPV := Hd (show done ++ pgV b i x 0 (decide (0 = 0)) num 0 = pagesB b by rw [← HEQ.out, pgS_V hxi]; rfl)
 have m0 := HBI.out.m0
 have m1 := HBI.out.m1
 have m2 := HBI.out.h
 clear hxi hrep hcell hr1 hr2
 go_upto_region 9 with (fail)
 obtain ⟨W1, hW1⟩ : ∃ W1, wr.alloc (.cells #[.int .i64 x.ent, .bool x.fz, .slice A1 n1 c1', .slice A2 n2 c2'] 46) = W1 := ⟨_, rfl⟩
 obtain ⟨zs, hzs⟩ : ∃ zs, wr.heap.size = zs := ⟨_, rfl⟩
 have hx1 : Ext wr W1 := by rw [← hW1]; exact (Ext.refl wr).alloc _
 have hB1 : W1.heap[zs]? = some (.cells #[.int .i64 x.ent, .bool x.fz, .slice A1 n1 c1', .slice A2 n2 c2'] 46 (0, 0)) := by rw [← hW1, ← hzs]; exact haA _ _ _ _ rfl
 rw [hW1, hzs]
 have HB1 := Hd hB1
 have HOZ := Hd (show ∀ j, (Value.slice A3 done.length c3).ownBlock = some j → j < zs from fun j hj => by have := (Lay.own_lt HO.out j hj).2; omega)
 have HX1 := Hd (HXR.out.trans hx1)
 have HO1 := Hd (show Ow W0 W1 (.slice A3 done.length c3) done (.slice A3 done.length c3) W1 from Ow.start (Lay.own_ext HO.out hx1) (HXR.out.trans hx1))
 have HCS := Hd (fun X d ov (hX : Ow W0 W1 (.slice A3 done.length c3) d ov X) => (show X.cell? ⟨zs, 0, none⟩ = some (.int .i64 x.ent) ∧ X.cell? ⟨zs, 2, none⟩ = some (.slice A1 n1 c1') ∧ X.cell? ⟨zs, 3, none⟩ = some (.slice A2 n2 c2') from
  have h9 : X.heap[zs]? = some (.cells #[.int .i64 x.ent, .bool x.fz, .slice A1 n1 c1', .slice A2 n2 c2'] 46 (0, 0)) := (hX.keep zs (lt_of_block hB1) fun e => Nat.lt_irrefl _ (HOZ.out zs e)).trans hB1
  ⟨cof h9 (i := 0) rfl, cof h9 (i := 2) rfl, cof h9 (i := 3) rfl⟩))
 clear hW1 hzs hx1 hB1 y0 y1 y2 y3 c0 c1 c2
 go_loopw [3, 4, 7, 8, 9, 10, 11, 12] (fun s3 s4 s7 s8 _ _ _ _ w' => VgM W0 W1 (.slice A3 done.length c3) b i x s3 s4 s7 s8 w') (fun _ _ _ s8 _ _ _ _ _ => toM n2 s8)
 case atStart => exact ⟨0, num, 0, done, by omega, rfl, rfl, rfl, ⟨hn0, hn1⟩, ⟨by omega, by omega⟩, HO1.out, HPV.out⟩
 obtain ⟨k, num, suf, dn, hk, rfl, rfl, rfl, ⟨hn0, hn1⟩, ⟨hs0, hs1⟩, how, heq⟩ := hrel
 rename World => wk
 have HOW := Hd how
 have HEQ2 := Hd heq
 obtain ⟨d0, d2, d3⟩ := HCS.out _ _ _ how
 obtain ⟨c0, c1, c2⟩ := HCA.out _ how.ext
 have hdl2 : dn.length ≤ 1000000 := by
  have h1 := congrArg List.length heq
  have h2 := HBI.out.np
  rw [List.length_append] at h1
  omega
 obtain ⟨A4, c4, e4, hc4, _⟩ := Lay.own_row how.own
 subst e4
 rw [← HN2.out] at hk
 clear how heq
 by_cases hkt : k < n2
 case neg =>
  obtain rfl : k = n2 := by omega
  have hnk : ¬ ((k : Int) < (k : Int)) := by omega
  have HPE := Hd (show dn ++ pagesS b.ms b.ht (b.secs.drop (i + 1)) num = pagesB b by
   have h9 := HEQ2.out
   rwa [pgV_end (by have := HN2.out; omega) HVS.out] at h9)
  go_wp2_with fail
  go_roundw
  case rel => exact ⟨i + 1, num, dn, by have := HN.out; omega, by simp, rfl, hn0, hn1, HOW.out.own, HOW.out.ext, HPE.out⟩
  case measure => simp only [toM]; omega
 have hK : (k : Int) < (n2 : Int) := by omega
 obtain ⟨t, ht⟩ : ∃ t, x.texts[k]? = some t := ⟨_, List.getElem?_eq_getElem (by have := HN2.out; omega)⟩
 obtain ⟨v, hv⟩ : ∃ v, x.vers[k]? = some v := ⟨_, List.getElem?_eq_getElem (by have := HN2.out; have := HVS.out; omega)⟩
 obtain ⟨bt, ot, cs, rfl, hbt, _, hrep, hcell⟩ := Lay.row_at HR2.out ht
 obtain ⟨A5, n5, c5, A6, n6, c6, rfl, _, _, hr5, hr6⟩ := kTx_rep.1 hrep
 have t0 := hcell 0 _ rfl
 have t1 := hcell 1 _ rfl
 rw [kTx_sz] at t0 t1
 rw [Nat.add_zero] at t0
 obtain ⟨bv, ov, rfl, hbv, _, hvc⟩ := int_at HR1.out hv
 have hwk : Ext w wk := HX0.out.trans HOW.out.ext
 have HCT := Hd (fun X (hX : Ext wk X) => (show X.cell? ⟨zs, 3, none⟩ = some (.slice (some ⟨bt, ot, none⟩) n2 c2') ∧ X.cell? ⟨z, 0, none⟩ = some (.int .i64 b.ms) ∧ X.cell? ⟨z, 1, none⟩ = some (.int .i64 b.ht) ∧ X.cell? ⟨bt, ot + k * 2, none⟩ = some (.slice A5 n5 c5) ∧ X.cell? ⟨bt, ot + k * 2 + 1, none⟩ = some (.slice A6 n6 c6) from
  ⟨(HCS.out X _ _ (HOW.out.mv hX)).2.2, (HCA.out X (HOW.out.ext.trans hX)).1, (HCA.out X (HOW.out.ext.trans hX)).2.1, ((hwk.trans hX).cells.1 bt _ hbt).trans t0, ((hwk.trans hX).cells.1 bt _ hbt).trans t1⟩))
 have HTP := Hd (fun X (hX : Ext wk X) => rtext2_any P X t b.ms b.ht A5 A6 n5 n6 c5 c6 (Lay.row_ext hr5 (hwk.trans hX)) (Lay.row_ext hr6 (hwk.trans hX)) (HTX.out t (List.mem_of_getElem? ht)) m0 m1)
 have HLP := Hd (HLNB.out t (List.mem_of_getElem? ht))
 have HVC := Hd (fun X (hX : Ext w X) => (show X.cell? ⟨bv, ov + k, none⟩ = some (.int .i64 v) from (hX.cells.1 bv _ hbv).trans hvc))
 obtain ⟨ps, hps⟩ : ∃ ps, (textP t b.ms b.ht).2 = ps := ⟨_, rfl⟩
 rw [hps] at HTP HLP
 have HPT := Hd (show dn ++ pgT b i x k v (decide (k = 0)) ps num suf = pagesB b by rw [← HEQ2.out, pgV_T hv ht, hps])
 have hpl : ps.length ≤ 1000000 := by
  have h1 := congrArg List.length HPT.out
  have h2 := HBI.out.np
  unfold pgT at h1
  rw [List.length_append, List.length_append, pagesT_len] at h1
  omega
 clear ht hv hrep hcell hr5 hr6 t0 t1 hvc hps hbt hbv
 go_upto_region 11 with (fail)
 have hcur : Ext wk wk.drew := (Ext.refl _).drew
 go_region_held3 (fun W => W.cell? ⟨zs, 3, none⟩ = some (.slice (some ⟨bt, ot, none⟩) n2 c2') ∧ W.cell? ⟨z, 0, none⟩ = some (.int .i64 b.ms) ∧ W.cell? ⟨z, 1, none⟩ = some (.int .i64 b.ht) ∧ W.cell? ⟨bt, ot + k * 2, none⟩ = some (.slice A5 n5 c5) ∧ W.cell? ⟨bt, ot + k * 2 + 1, none⟩ = some (.slice A6 n6 c6))
  (exact HCT.out _ hcur)
  (first | (go_at_call 116; refine (HTP.out _ hcur).mono ?_; rintro e w3 ⟨A7, c7, rfl, hol, hx3⟩; have hcur := hcur.trans hx3; have HOL := Hd hol; clear hol hx3))
 have HX3 := Hd hcur
 have HO3 := Hd (HOW.out.mv hcur)
 have HST3 := Hd (Ow.start (HOW.out.mv hcur).own (HOW.out.mv hcur).ext)
 obtain ⟨Ax, cx, e7, hc7, hrl⟩ := own_rowN (Q := fun j => wk.heap.size ≤ j) HOL.out (fun j hj _ => hj) (fun j hj _ => hj)
 have e7a := (Value.slice.inj e7).1
 rw [List.length_map] at hrl
 rw [← e7a] at hrl
 have HRL := Hd (Lay.row_mono (Q := fun j => wk.heap.size ≤ j ∧ j < w3.heap.size) hrl fun j hj hl => ⟨hj, hl⟩)
 have HOK := Hd (show ∀ j, (Value.slice A4 dn.length c4).ownBlock = some j → j < wk.heap.size from fun j hj => (Lay.own_lt HOW.out.own j hj).2)
 have HCK := Hd (fun X d ov' (hX : Ow W0 w3 (.slice A4 dn.length c4) d ov' X) => (show X.cell? ⟨zs, 0, none⟩ = some (.int .i64 x.ent) ∧ X.cell? ⟨zs, 2, none⟩ = some (.slice (some ⟨bv, ov, none⟩) n1 c1') from
  have h9 := HCS.out X _ _ (HO3.out.comp hX)
  ⟨h9.1, h9.2.1⟩))
 clear hcur hrl e7 e7a hc7 d0 d2 d3 c0 c1 c2
 go_wp2_with fail
 go_loopw [3, 4, 7, 11, 12] (fun s3 s4 s7 s11 _ w' => VgI W0 w3 (.slice A4 dn.length c4) b i x k v ps s3 s4 s7 s11 w') (fun _ _ _ s11 _ _ => toM ps.length s11)
 case atStart => exact ⟨0, num, suf, dn, by omega, rfl, rfl, rfl, ⟨hn0, hn1⟩, ⟨hs0, hs1⟩, HST3.out, HPT.out⟩
 obtain ⟨j, num, suf, de, hj, rfl, rfl, rfl, ⟨hn0, hn1⟩, ⟨hs0, hs1⟩, how, heq⟩ := hrel
 rename World => wj
 have HOJ := Hd how
 have HEQ3 := Hd heq
 have hdl3 : de.length ≤ 1000000 := by
  have h1 := congrArg List.length heq
  have h2 := HBI.out.np
  rw [List.length_append] at h1
  omega
 obtain ⟨A8, c8, e8, hc8, _⟩ := Lay.own_row how.own
 subst e8
 clear how heq
 by_cases hjp : j < ps.length
 case neg =>
  obtain rfl : j = ps.length := by omega
  have hnj : ¬ ((ps.length : Int) < (ps.length : Int)) := by omega
  have HPE := Hd (show de ++ pgV b i x (k + 1) (decide (k + 1 = 0)) num suf = pagesB b by
   have h9 := HEQ3.out
   rwa [List.drop_length, pgT_end] at h9)
  go_wp2_with fail
  go_roundw
  case rel => exact ⟨k + 1, num, suf, de, by have := HN2.out; omega, by simp, rfl, rfl, ⟨hn0, hn1⟩, ⟨hs0, hs1⟩, HO3.out.comp HOJ.out, HPE.out⟩
  case measure => simp only [toM]; omega
 have hJ : (j : Int) < (ps.length : Int) := by omega
 obtain ⟨p, hp⟩ : ∃ p, ps[j]? = some p := ⟨_, List.getElem?_eq_getElem hjp⟩
 have hpm : (ps.map pgOf)[j]? = some (pgOf p) := by rw [List.getElem?_map, hp]; rfl
 have hrj : kPg.row wj (fun j => wk.heap.size ≤ j ∧ j < w3.heap.size) A7 ps.length (ps.map pgOf) := Lay.row_keep HRL.out HOJ.out.size fun e he hl => HOJ.out.keep e hl fun e9 => by have := HOK.out e e9; omega
 obtain ⟨bp, op, cs, rfl, hbp, hbp2, hrep, hcell⟩ := Lay.row_at hrj hpm
 obtain ⟨G1, g1, e1, G2, g2, e2, rfl, hg1, hg2, hrg1, hrg2⟩ := kPg_rep.1 hrep
 have p0 := hcell 0 _ rfl
 have p1 := hcell 1 _ rfl
 have p2 := hcell 2 _ rfl
 have p3 := hcell 3 _ rfl
 have p4 := hcell 4 _ rfl
 have p5 := hcell 5 _ rfl
 rw [kPg_sz] at p0 p1 p2 p3 p4 p5
 rw [Nat.add_zero] at p0
 obtain ⟨b1, b2⟩ := HCK.out _ _ _ HOJ.out
 have HAL := Hd (fun o => HCK.out (wj.alloc o) _ _ (HOJ.out.mv ((Ext.refl _).alloc o)))
 have ha0 : ∀ o, (wj.alloc o).cell? ⟨zs, 0, none⟩ = some (.int .i64 x.ent) := fun o => (HAL.out o).1
 have ha2 : ∀ o, (wj.alloc o).cell? ⟨zs, 2, none⟩ = some (.slice (some ⟨bv, ov, none⟩) n1 c1') := fun o => (HAL.out o).2
 have hav : ∀ o, (wj.alloc o).cell? ⟨bv, ov + k, none⟩ = some (.int .i64 v) := fun o => HVC.out _ (HX0.out.trans (HOJ.out.ext.alloc o))
 have hk1 : k < n1 := by have := HN1.out; have := HVS.out; have := HN2.out; omega
 have hK1 : (k : Int) < (n1 : Int) := by omega
 have HAPP := Hd (fun (n' s' : Int) (V : World) (hV : Ext wj V) => HOJ.out.mv hV |>.app (p := (⟨n', s', x.ent, v, p.1, p.2⟩ : Pg)) (cs := #[.int .i64 n', .int .i64 s', .int .i64 x.ent, .int .i64 v, .slice G1 g1 e1, .slice G2 g2 e2]) (kPg_rep.2 ⟨G1, g1, e1, G2, g2, e2, rfl, hg1, hg2, Lay.row_mono (Lay.row_ext hrg1 hV) fun e he _ => ⟨Nat.le_trans HOW.out.ext.lt he.1, fun e9 => by
   rcases HOJ.out.ow e e9 with h1 | h1
   ·have := HOK.out e h1; omega
   ·omega⟩, Lay.row_mono (Lay.row_ext hrg2 hV) fun e he _ => ⟨Nat.le_trans HOW.out.ext.lt he.1, fun e9 => by
   rcases HOJ.out.ow e e9 with h1 | h1
   ·have := HOK.out e h1; omega
   ·omega⟩⟩) (by omega))
 have hdrop : ps.drop j = p :: ps.drop (j + 1) := dwl _ hp
 have HPN := Hd (show de ++ (⟨if decide (k = 0) then num + 1 else num, if decide (k = 0) then suf else suf + 1, x.ent, v, p.1, p.2⟩ :: pgT b i x k v (decide (k = 0)) (ps.drop (j + 1)) (if decide (k = 0) then num + 1 else num) (if decide (k = 0) then suf else suf + 1)) = pagesB b by rw [← HEQ3.out, hdrop, pgT_step])
 clear hp hpm hrj hbp2 hrep hcell hrg1 hrg2 hdrop hg1 hg2
 simp only [pgOf] at p0 p1 p2 p3 p4 p5
 by_cases hk0 : k = 0
 ·subst hk0
  simp only [Nat.add_zero] at hav
  obtain ⟨V, hV⟩ : ∃ V, wj.alloc (.cells #[.int .i64 (num + 1), .int .i64 suf, .int .i64 x.ent, .int .i64 v, .slice G1 g1 e1, .slice G2 g2 e2] 84) = V := ⟨_, rfl⟩
  obtain ⟨A9, c9, w9, hrun, how9⟩ := HAPP.out (num + 1) suf V (by rw [← hV]; exact (Ext.refl _).alloc _)
  have HRUN := Hd hrun
  have HREL := Hd (show VgI W0 w3 (.slice A4 dn.length c4) b i x 0 v ps (.slice A9 (de.length + 1) c9) (.int .i64 (num + 1)) (.int .i64 suf) (.int .i64 ((j : Int) + 1)) w9 from ⟨j + 1, num + 1, suf, _, by omega, by simp, rfl, rfl, ⟨by omega, by rw [List.length_append, List.length_singleton]; omega⟩, ⟨hs0, by rw [List.length_append, List.length_singleton]; omega⟩, how9, by
   have h9 := HPN.out
   rw [List.append_assoc]
   exact h9⟩)
  rw [← hV, World.size_alloc] at HRUN
  clear hrun how9 hV
  go_wp2_with (first | (at_builtin; refine wpList_append_run (s := .tmp 74) (x := .tmp 76) HRUN.out rfl rfl rfl rfl rfl ?_))
  go_roundw
  case rel => first | exact HREL.out | exact ⟨_, _, _, _, HREL.out, rfl, rfl, rfl, rfl⟩
  case measure => simp only [toM]; omega
 ·have hk0b : ((k : Int) == 0) = false := by rw [beq_eq_false_iff_ne]; omega
  have hk0i : ¬ (k : Int) = 0 := by omega
  obtain ⟨V, hV⟩ : ∃ V, wj.alloc (.cells #[.int .i64 num, .int .i64 (suf + 1), .int .i64 x.ent, .int .i64 v, .slice G1 g1 e1, .slice G2 g2 e2] 84) = V := ⟨_, rfl⟩
  obtain ⟨A9, c9, w9, hrun, how9⟩ := HAPP.out num (suf + 1) V (by rw [← hV]; exact (Ext.refl _).alloc _)
  have HRUN := Hd hrun
  have HREL := Hd (show VgI W0 w3 (.slice A4 dn.length c4) b i x k v ps (.slice A9 (de.length + 1) c9) (.int .i64 num) (.int .i64 (suf + 1)) (.int .i64 ((j : Int) + 1)) w9 from ⟨j + 1, num, suf + 1, _, by omega, by simp, rfl, rfl, ⟨hn0, by rw [List.length_append, List.length_singleton]; omega⟩, ⟨by omega, by rw [List.length_append, List.length_singleton]; omega⟩, how9, by
   have h9 := HPN.out
   rw [decide_eq_false hk0] at h9 ⊢
   rw [List.append_assoc]
   exact h9⟩)
  rw [← hV, World.size_alloc] at HRUN
  clear hrun how9 hV
  go_wp2_with (first | (at_builtin; refine wpList_append_run (s := .tmp 74) (x := .tmp 76) HRUN.out rfl rfl rfl rfl rfl ?_))
  go_roundw
  case rel => first | exact HREL.out | exact ⟨_, _, _, _, HREL.out, rfl, rfl, rfl, rfl⟩
  case measure => simp only [toM]; omega
end
end Go.Proofs.YtdbnddmncbjobaaGreatDoor