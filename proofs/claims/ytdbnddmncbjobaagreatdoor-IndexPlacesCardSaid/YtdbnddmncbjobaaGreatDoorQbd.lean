/- book.Add: walked. -/
import Derived.Test.YtdbnddmncbjobaaGreatDoorQbc
namespace Go.Proofs.YtdbnddmncbjobaaGreatDoor
open Go Go.RowKit

theorem BkO.own {W : World} {base : Nat} {ls : List Se} {g n : Nat} (h : BkO W base ls g) (hn : n = ls.length) (hn2 : n ≤ 1000000) : kSe.own 46 W base (fun q => g < q) (.slice (some ⟨g, 0, none⟩) n n) ls := by
  obtain ⟨ds, h0, h1, h2, h3⟩ := h
  have hl := gcells_len (cf := ccf) ccf_len ds
  refine ⟨ds, ⟨gcells_len ccf_len _, .inr ⟨g, n, _, by rw [h2, hn], h0, h1, by rw [h2, hn]; exact Nat.le_refl _, by simp only [maxLen]; omega, by rw [List.size_toArray, hl, h2, hn], by rw [show (gcells ccf ds).toArray.toList = gcells ccf ds from rfl, List.take_of_length_le (by rw [hl]; exact Nat.le_refl _)]⟩⟩, h2, fun i d x hd hx => ?_⟩
  exact kSe.mono (h3 i d x hd hx) fun q hq _ => ⟨hq, by simp [Value.ownBlock]; omega⟩
/-- The error of Add at a good text. -/
def addE (b : Bk) (e v : Int) (t : Tx) : Int :=
  if 0 ≤ idxI (fun x => x.ent == e) b.secs then 4
  else if (decide (0 ≤ e) && decide (e ≤ 65535)) = false ∨ (decide (0 ≤ v) && decide (v ≤ 2147483647)) = false then 5
  else if 16384 < (pagesB (addP b e v t)).length then 2 else 0
/-- A book, or an error. -/
def OpPost (w : World) (er ms ht : Int) (ls : List Se) (z : Ending) (w' : World) : Prop :=
  Ext w w' ∧ ((er ≠ 0 ∧ z = .returned (.tuple #[.agg #[.int .i64 0, .int .i64 0, .slice none 0 0], .int .i64 er])) ∨
    (er = 0 ∧ ∃ A n c, z = .returned (.tuple #[.agg #[.int .i64 ms, .int .i64 ht, .slice A n c], .int .i64 0]) ∧ n ≤ c ∧ kSe.row w' (fun j => w.heap.size ≤ j) A n ls))
/-- The result's cells. -/
structure BkR (z : Nat) (W : World) : Prop where
  c0 : W.cell? ⟨z, 0, none⟩ = some (.int .i64 0)
  c1 : W.cell? ⟨z, 1, none⟩ = some (.int .i64 0)
  c2 : W.cell? ⟨z, 2, none⟩ = some (.slice none 0 0)
  f0 : W.frozen? ⟨z, 0, none⟩ = false
  f1 : W.frozen? ⟨z, 1, none⟩ = false
  f2 : W.frozen? ⟨z, 2, none⟩ = false
theorem BkR.of {z : Nat} {W : World} (h : W.heap[z]? = some (.cells #[.int .i64 0, .int .i64 0, .slice none 0 0] 27 (0, 0))) : BkR z W :=
  ⟨cell_of h (i := 0) rfl, cell_of h (i := 1) rfl, cell_of h (i := 2) rfl, frozen_of h 0, frozen_of h 1, frozen_of h 2⟩
/-- The book that Add has made, in block zb. -/
def AdC (w w2 : World) (zb n : Nat) (ms ht : Int) (ls : List Se) (wx : World) : Prop := (∀ j, j < w2.heap.size → wx.heap[j]? = w2.heap[j]?) ∧ ∃ A9 c9, wx.heap[zb]? = some (.cells #[.int .i64 ms, .int .i64 ht, .slice A9 n c9] 27 (0, 0)) ∧ n ≤ c9 ∧ kSe.row wx (fun j => w2.heap.size ≤ j) A9 n ls ∧ Ext w wx
/-- append of a section of one version. -/
theorem sec_app {w5 X : World} {base g n : Nat} {ls : List Se} {R : Nat → Prop} (hR : ∀ j, w5.heap.size ≤ j → R j) (h : kSe.own 46 w5 base R (.slice (some ⟨g, 0, none⟩) n n) ls) (hn : n = ls.length) (hn2 : n ≤ 1000000) (hb : base ≤ w5.heap.size) (hg : g < w5.heap.size) (hX : Ext w5 X) {gv gt : Nat} {e v : Int} {t : Tx} {A7 A8 : Option Addr} {n7 c7 n8 c8 : Nat}
    (hgv : X.heap[gv]? = some (.cells #[.int .i64 v] 3 (0, 0))) (hv5 : w5.heap.size ≤ gv) (hgt : X.heap[gt]? = some (.cells #[.slice A7 n7 c7, .slice A8 n8 c8] 53 (0, 0))) (ht5 : w5.heap.size ≤ gt) (h7 : n7 ≤ c7) (h8 : n8 ≤ c8)
    (r7 : kWs.row X (fun j => w5.heap.size ≤ j) A7 n7 t.paras) (r8 : kWs.row X (fun j => w5.heap.size ≤ j) A8 n8 t.notes) :
    ∃ A' c' w', (Builtin.append_ #[25, 25] 25 #[.slice (some ⟨g, 0, none⟩) n n, .slice (some ⟨X.heap.size, 0, none⟩) 1 1]).run Tryz.prog (X.alloc (.cells #[.int .i64 e, .bool false, .slice (some ⟨gv, 0, none⟩) 1 1, .slice (some ⟨gt, 0, none⟩) 1 1] 46)) = .ok (.slice A' (n + 1) c') w' ∧
      kSe.own 46 w' base R (.slice A' (n + 1) c') (ls ++ [⟨e, false, [v], [t]⟩]) ∧ (∀ B, B ≤ base → Below B X w') ∧ (∀ j, j < X.heap.size → j ≠ g → w'.heap[j]? = X.heap[j]?) ∧ X.heap.size ≤ w'.heap.size ∧ (∀ j, (Value.slice A' (n + 1) c').ownBlock = some j → j = g ∨ X.heap.size ≤ j) := by
  have hrv : kInt.row X (fun j => w5.heap.size ≤ j) (some ⟨gv, 0, none⟩) 1 [v] := by
    have ha : Arr X gv [v] := hgv
    exact ha.row _ hv5
  have hrt : kTx.row X (fun j => w5.heap.size ≤ j) (some ⟨gt, 0, none⟩) 1 [t] := by
    have hrep : kTx.rep X (fun j => w5.heap.size ≤ j) t [.slice A7 n7 c7, .slice A8 n8 c8] := kTx_rep.2 ⟨A7, n7, c7, A8, n8, c8, rfl, h7, h8, r7, r8⟩
    obtain ⟨d0, hd0⟩ : ∃ d0 : Cs kTx.sz, ccf d0 = [.slice A7 n7 c7, .slice A8 n8 c8] := mkCs _ (kTx.len hrep) (kTx.one hrep)
    refine ⟨[d0], rfl, rfl, ⟨rfl, fun _ => ⟨gt, 0, rfl, lt_of_block hgt, fun i d hd j u hu => ?_⟩⟩, fun x hx => ?_, fun i d x hd hx => ?_⟩
    · cases i with
      | zero =>
        injection hd with hd
        subst hd
        rw [hd0] at hu
        rw [Nat.zero_mul, Nat.zero_add]
        exact cell_of hgt (by simpa using hu)
      | succ i => cases hd
    · injection hx with hx; subst hx; exact ⟨ht5, lt_of_block hgt⟩
    · cases i with
      | zero =>
        injection hd with hd
        injection hx with hx
        subst hd hx
        show kTx.rep X _ t (ccf d0)
        rw [hd0]; exact hrep
      | succ i => cases hd
  have hsub : ∀ j, w5.heap.size ≤ j → j < X.heap.size → R j ∧ (Value.slice (some ⟨g, 0, none⟩) n n).ownBlock ≠ some j := fun j hj _ => ⟨hR j hj, by simp [Value.ownBlock]; omega⟩
  obtain ⟨A', c', w', r1, r2, r3, r4, r5, r6⟩ := own_app1 (k := kSe) (Pr := Tryz.prog) (t := 25) Tryz.underlying25 info46 rfl (by decide) (by omega) (Lay.own_ext h hX) (Nat.le_trans hb hX.lt) (cs := #[.int .i64 e, .bool false, .slice (some ⟨gv, 0, none⟩) 1 1, .slice (some ⟨gt, 0, none⟩) 1 1]) (T := 46) (x := ⟨e, false, [v], [t]⟩)
    (kSe_rep.2 ⟨_, 1, 1, _, 1, 1, rfl, Nat.le_refl _, Nat.le_refl _, Lay.row_mono hrv hsub, Lay.row_mono hrt hsub⟩) 1 (by omega)
  rw [← hn] at r1 r2 r6
  exact ⟨A', c', w', r1, r2, r3, fun j hj hne => r4 j hj (by simp [Value.ownBlock]; omega), r5, fun j hj => (r6 j hj).imp (fun h => by simpa [Value.ownBlock] using h.symm) id⟩
theorem step_append_tm {P : Program} {w : World} {ys : Nat → Option Bool} {o : Oper} {a : Act} {K : Act → World → Prop} {Q : Exit → Act → World → Prop} {E : Prop} {s x : Operand} {t : TypeId} {vs vx v' : Value} {w' : World}
    (hr : (Builtin.append_ #[t, t] t #[vs, vx]).run P w = .ok v' w') (hgd : o.guard = none)
    (ho : o.op = .call { callee := .builtin .append, args := #[s, x], argTypes := #[t, t] }) (hty : o.type = t) (hs : a.eval s = vs) (hx : a.eval x = vx)
    (h : K (a.put o.dst v') w') : if Region.wanted o ys = true then Oper.wp P o a w K Q else E := by
  have hw : Region.wanted o ys = true := by simp [Region.wanted, hgd]
  rw [if_pos hw]
  unfold Oper.wp execOp
  simp only [ho, hty, resolve, invoke, builtin, Sem.run_bind, Sem.run_pure, Result.andThen_ok, List.map_toArray, List.map_cons, List.map_nil, hs, hx, hr]
  exact h
set_option maxHeartbeats 4000000 in
set_option maxRecDepth 100000 in
theorem add_any (P Q : Nat → Prop) (w : World) (b : Bk) (e v : Int) (t : Tx) (A A3 A4 : Option Addr) (N c n3 c3 n4 c4 : Nat) (hb : BkI b) (hh : 4 ≤ b.ht) (hb2 : ¬ 0 ≤ idxI (fun x => x.ent == e) b.secs → BkI (addP b e v t)) (hT : OkT t) (hr : kSe.row w P A N b.secs) (h3 : kWs.row w Q A3 n3 t.paras) (h4 : kWs.row w Q A4 n4 t.notes) (hL : EnvW w) :
    Calls Tryz.prog 37 #[.agg #[.int .i64 b.ms, .int .i64 b.ht, .slice A N c], .int .i64 e, .int .i64 v, .agg #[.slice A3 n3 c3, .slice A4 n4 c4]] w (OpPost w (addE b e v t) b.ms b.ht (b.secs ++ [⟨e, false, [v], [t]⟩])) := by
  have hN := Lay.row_len hr
  have hN6 : N ≤ 1000000 := by have := hb.s.n; omega
  obtain ⟨r, hri⟩ : ∃ r, idxI (fun x => x.ent == e) b.secs = r := ⟨_, rfl⟩
  obtain ⟨r1, hr1⟩ : ∃ r1, (decide (0 ≤ e) && decide (e ≤ 65535)) = r1 := ⟨_, rfl⟩
  obtain ⟨r2, hr2⟩ : ∃ r2, (decide (0 ≤ v) && decide (v ≤ 2147483647)) = r2 := ⟨_, rfl⟩
  have HFD := Lib.hid (fun X (hX : Ext w X) => (show Calls Tryz.prog 81 #[.agg #[.int .i64 b.ms, .int .i64 b.ht, .slice A N c], .int .i64 e] X (fun z w' => z = .returned (.int .i64 r) ∧ Ext X w') from by rw [← hri]; exact find_any P X b.ms b.ht e b.secs A N c (Lay.row_ext hr hX) hN6))
  have HW1 := Lib.hid (fun X => (show Calls Tryz.prog 82 #[.int .i64 e, .int .i64 0, .int .i64 65535] X (fun z w' => z = .returned (.bool r1) ∧ X = w') from by rw [← hr1]; exact within_any X e 0 65535))
  have HW2 := Lib.hid (fun X => (show Calls Tryz.prog 82 #[.int .i64 v, .int .i64 0, .int .i64 2147483647] X (fun z w' => z = .returned (.bool r2) ∧ X = w') from by rw [← hr2]; exact within_any X v 0 2147483647))
  have HWR := Lib.hid (fun X (hX : Ext w X) => wrong_ok Q X b.ms b.ht A N c t A3 A4 n3 n4 c3 c4 (Lay.row_ext h3 hX) (Lay.row_ext h4 hX) hT hb.m0 hb.m1 hh hb.h.2 (hL.ext hX))
  have HCL := Lib.hid (fun X (hX : Ext w X) => cloned_any P X b A N c (Lay.row_ext hr hX) hb.s)
  have HTX := Lib.hid (fun X (hX : Ext w X) => text_any Q X t A3 A4 n3 n4 c3 c4 (Lay.row_ext h3 hX) (Lay.row_ext h4 hX) (by have := Lay.row_len h3; have := hT.np; omega) (by have := Lay.row_len h4; have := hT.nn; omega) hT.small.len)
  have HFT0 := Lib.hid (fun (h : r < 0) X (hX : Ext w X) (A9 : Option Addr) (c9 : Nat) h9 => bfits_any (fun j => w.heap.size ≤ j) X (addP b e v t) A9 (N + 1) c9 (hb2 (by rw [hri]; omega)) h9 (hL.ext hX))
  have HER := Lib.hid (show addE b e v t = if 0 ≤ r then 4 else if r1 = false ∨ r2 = false then 5 else if 16384 < (pagesB (addP b e v t)).length then 2 else 0 by unfold addE; rw [hri, hr1, hr2])
  obtain ⟨np, hnp⟩ : ∃ np, (pagesB (addP b e v t)).length = np := ⟨_, rfl⟩
  rw [hnp] at HFT0 HER
  have HN := Lib.hid hN
  clear hb hb2 hh hT hr h3 h4 hL hri hr1 hr2 hN hnp
  go_enter Tryz.func37, Tryz.ntmps37
  go_upto_region 1 with (fail)
  obtain ⟨W0, hW0⟩ : ∃ W0, ((w.alloc (.cells #[.int .i64 b.ms, .int .i64 b.ht, .slice A N c] 27)).alloc (.cells #[.slice A3 n3 c3, .slice A4 n4 c4] 53)).alloc (.cells #[.int .i64 0, .int .i64 0, .slice none 0 0] 27) = W0 := ⟨_, rfl⟩
  obtain ⟨z, hz⟩ : ∃ z, w.heap.size = z := ⟨_, rfl⟩
  have hx0 : Ext w W0 := by rw [← hW0]; exact (((Ext.refl w).alloc _).alloc _).alloc _
  have hB0 : W0.heap[z]? = some (.cells #[.int .i64 b.ms, .int .i64 b.ht, .slice A N c] 27 (0, 0)) := by rw [← hW0, ← hz, heap_alloc_old _ _ _ (by simp; omega), heap_alloc_old _ _ _ (by simp)]; exact heap_alloc_at _ _ _ _ rfl
  have hB1 : W0.heap[z + 1]? = some (.cells #[.slice A3 n3 c3, .slice A4 n4 c4] 53 (0, 0)) := by rw [← hW0, ← hz, heap_alloc_old _ _ _ (by simp)]; exact heap_alloc_at _ _ _ _ (by simp)
  have hB2 : W0.heap[z + 1 + 1]? = some (.cells #[.int .i64 0, .int .i64 0, .slice none 0 0] 27 (0, 0)) := by rw [← hW0, ← hz]; exact heap_alloc_at _ _ _ _ (by simp)
  obtain ⟨z2, hz2⟩ : ∃ z2, z + 1 + 1 = z2 := ⟨_, rfl⟩
  obtain ⟨z1, hz1⟩ : ∃ z1, z + 1 = z1 := ⟨_, rfl⟩
  rw [hz2] at hB2
  rw [hz1] at hB1
  rw [hW0, hz, hz2, hz1]
  have HZ := Lib.hid (show w.heap.size = z ∧ z1 = z + 1 ∧ z2 = z + 2 by omega)
  have HX0 := Lib.hid hx0
  have HC := Lib.hid (fun X (hX : Ext W0 X) => (show X.heap[z]? = some (.cells #[.int .i64 b.ms, .int .i64 b.ht, .slice A N c] 27 (0, 0)) ∧ X.heap[z1]? = some (.cells #[.slice A3 n3 c3, .slice A4 n4 c4] 53 (0, 0)) ∧ X.heap[z2]? = some (.cells #[.int .i64 0, .int .i64 0, .slice none 0 0] 27 (0, 0)) from
    ⟨(hX.block _ (lt_of_block hB0)).trans hB0, (hX.block _ (lt_of_block hB1)).trans hB1, (hX.block _ (lt_of_block hB2)).trans hB2⟩))
  have a0 := cell_of hB0 (i := 0) (u := .int .i64 b.ms) rfl
  have a1 := cell_of hB0 (i := 1) (u := .int .i64 b.ht) rfl
  have a2 := cell_of hB0 (i := 2) (u := .slice A N c) rfl
  clear hW0 hz hx0 hB0 hB1 hB2 hz1 hz2
  go_upto_if 15 with (first | (go_at_call 81; refine (HFD.out _ HX0.out).mono ?_; rintro z9 w1 ⟨rfl, hx1⟩))
  have HX1 := Lib.hid hx1
  obtain ⟨k0, k1, k2, j0, j1, j2⟩ := BkR.of (HC.out w1 hx1).2.2
  clear a0 a1 a2 HFD hx1
  by_cases hge : 0 ≤ r
  · have HE := Lib.hid (show addE b e v t = 4 by rw [HER.out, if_pos hge])
    go_wp2_with fail
    have hs := st3 (HC.out w1 HX1.out).2.2 (.int .i64 0) (.int .i64 0) (.slice none 0 0)
    have q0 := cell_of hs (i := 0) rfl
    have q1 := cell_of hs (i := 1) rfl
    have q2 := cell_of hs (i := 2) rfl
    refine bodyPost_ret (v := .tuple #[.agg #[.int .i64 0, .int .i64 0, .slice none 0 0], .int .i64 4]) (by simp [results, Tryz.results37, go_sem, q0, q1, q2]) rfl ?_
    exact ⟨ext3 (HX0.out.trans HX1.out) (by have := HZ.out; omega) _ _ _, .inl ⟨by rw [HE.out]; decide, by rw [HE.out]⟩⟩
  have hge' : ¬ (0 : Int) ≤ r := hge
  have HFT := Lib.hid (HFT0.out (by omega))
  clear HFT0
  have hbad : ∀ (X : World), Ext W0 X → addE b e v t = 5 → Ext w (((X.setCell ⟨z2, 0, none⟩ (.int .i64 0)).setCell ⟨z2, 1, none⟩ (.int .i64 0)).setCell ⟨z2, 2, none⟩ (.slice none 0 0)) := fun X hX _ => ext3 (HX0.out.trans hX) (by have := HZ.out; omega) _ _ _
  have HBAD := Lib.hid hbad
  clear hbad
  cases r1 with
  | false =>
    have HE := Lib.hid (show addE b e v t = 5 by rw [HER.out, if_neg hge, if_pos (.inl rfl)])
    go_wp2_with (first | (go_at_call_of 82 (Value.int IntKind.i64 e); refine (HW1.out _).mono ?_; rintro z9 w2 ⟨rfl, rfl⟩))
    have hs := st3 (HC.out _ HX1.out).2.2 (.int .i64 0) (.int .i64 0) (.slice none 0 0)
    have q0 := cell_of hs (i := 0) rfl
    have q1 := cell_of hs (i := 1) rfl
    have q2 := cell_of hs (i := 2) rfl
    refine bodyPost_ret (v := .tuple #[.agg #[.int .i64 0, .int .i64 0, .slice none 0 0], .int .i64 5]) (by simp [results, Tryz.results37, go_sem, q0, q1, q2]) rfl ?_
    exact ⟨HBAD.out _ HX1.out HE.out, .inl ⟨by rw [HE.out]; decide, by rw [HE.out]⟩⟩
  | true =>
    cases r2 with
    | false =>
      have HE := Lib.hid (show addE b e v t = 5 by rw [HER.out, if_neg hge, if_pos (.inr rfl)])
      go_wp2_with (first | (go_at_call_of 82 (Value.int IntKind.i64 e); refine (HW1.out _).mono ?_; rintro z9 w2 ⟨rfl, rfl⟩) | (go_at_call_of 82 (Value.int IntKind.i64 v); refine (HW2.out _).mono ?_; rintro z9 w2 ⟨rfl, rfl⟩))
      have hs := st3 (HC.out _ HX1.out).2.2 (.int .i64 0) (.int .i64 0) (.slice none 0 0)
      have q0 := cell_of hs (i := 0) rfl
      have q1 := cell_of hs (i := 1) rfl
      have q2 := cell_of hs (i := 2) rfl
      refine bodyPost_ret (v := .tuple #[.agg #[.int .i64 0, .int .i64 0, .slice none 0 0], .int .i64 5]) (by simp [results, Tryz.results37, go_sem, q0, q1, q2]) rfl ?_
      exact ⟨HBAD.out _ HX1.out HE.out, .inl ⟨by rw [HE.out]; decide, by rw [HE.out]⟩⟩
    | true =>
      have HE := Lib.hid (show addE b e v t = if 16384 < np then 2 else 0 by rw [HER.out, if_neg hge, if_neg (by simp)])
      clear HBAD HER k0 k1 k2 j0 j1 j2
      go_upto_if 24 with (first | (go_at_call_of 82 (Value.int IntKind.i64 e); refine (HW1.out _).mono ?_; rintro z9 w2 ⟨rfl, rfl⟩) | (go_at_call_of 82 (Value.int IntKind.i64 v); refine (HW2.out _).mono ?_; rintro z9 w2 ⟨rfl, rfl⟩))
      clear HW1 HW2
      have hc0 := (HC.out w1 HX1.out).1
      have hc1 := (HC.out w1 HX1.out).2.1
      have a0 := cell_of hc0 (i := 0) (u := .int .i64 b.ms) rfl
      have a1 := cell_of hc0 (i := 1) (u := .int .i64 b.ht) rfl
      have a2 := cell_of hc0 (i := 2) (u := .slice A N c) rfl
      have b0 := cell_of hc1 (i := 0) (u := .slice A3 n3 c3) rfl
      have b1 := cell_of hc1 (i := 1) (u := .slice A4 n4 c4) rfl
      clear hc0 hc1
      go_upto_if 30 with (first | (go_at_call 83; refine (HWR.out _ (HX0.out.trans HX1.out)).mono ?_; rintro z9 w2 ⟨rfl, hx2⟩))
      have HX2 := Lib.hid (HX1.out.trans hx2)
      have hc0 := (HC.out w2 HX2.out).1
      have a0 := cell_of hc0 (i := 0) (u := .int .i64 b.ms) rfl
      have a1 := cell_of hc0 (i := 1) (u := .int .i64 b.ht) rfl
      have a2 := cell_of hc0 (i := 2) (u := .slice A N c) rfl
      clear hc0 hx2 HWR HX1 b0 b1
      go_upto_region 9 with (first | (go_at_call 76; refine (HCL.out _ (HX0.out.trans HX2.out)).mono ?_; rintro z9 w3 ⟨g, rfl, hbk, hx3⟩))
      obtain ⟨w5, hw5⟩ : ∃ w5, w3.alloc (.cells #[.int .i64 b.ms, .int .i64 b.ht, .slice (some ⟨g, 0, none⟩) N N] 27) = w5 := ⟨_, rfl⟩
      obtain ⟨zb, hzb⟩ : ∃ z, w3.heap.size = z := ⟨_, rfl⟩
      have hx5 : Ext w3 w5 := by rw [← hw5]; exact (Ext.refl w3).alloc _
      have hB5 : w5.heap[zb]? = some (.cells #[.int .i64 b.ms, .int .i64 b.ht, .slice (some ⟨g, 0, none⟩) N N] 27 (0, 0)) := by rw [← hw5, ← hzb]; exact heap_alloc_at _ _ _ _ rfl
      rw [hw5, hzb]
      have hgl : g < zb := by obtain ⟨ds, _, h1, _⟩ := hbk; have := lt_of_block h1; omega
      have h5s : w5.heap.size = zb + 1 := by rw [← hw5, World.size_alloc, hzb]
      have HOW := Lib.hid (Lay.own_ext (Lay.own_mono (P' := fun q => g < q ∧ q ≠ zb) (hbk.own HN.out (by omega)) (fun q hq hl => ⟨hq, by omega⟩)) hx5)
      have HG := Lib.hid (show w.heap.size ≤ g ∧ w2.heap.size ≤ g from by
        obtain ⟨ds, h0, _⟩ := hbk
        have := (HX0.out.trans HX2.out).lt
        exact ⟨by omega, h0⟩)
      have HX5 := Lib.hid (HX2.out.trans (hx3.trans hx5))
      have HX25 := Lib.hid (hx3.trans hx5)
      have HB5 := Lib.hid hB5
      have HZB := Lib.hid (show g < zb ∧ w5.heap.size = zb + 1 ∧ w2.heap.size ≤ w5.heap.size from ⟨hgl, h5s, (hx3.trans hx5).lt⟩)
      have HQ := Lib.hid (fun X (hX : Ext w5 X) => (show X.cell? ⟨zb, 2, none⟩ = some (.slice (some ⟨g, 0, none⟩) N N) ∧ X.cell? ⟨z1, 0, none⟩ = some (.slice A3 n3 c3) ∧ X.cell? ⟨z1, 1, none⟩ = some (.slice A4 n4 c4) from
        have h1 := (HC.out X (HX5.out.trans hX)).2.1
        ⟨cell_of ((hX.block _ (lt_of_block HB5.out)).trans HB5.out) (i := 2) rfl, cell_of h1 (i := 0) rfl, cell_of h1 (i := 1) rfl⟩))
      clear hw5 hzb hx5 hB5 hgl h5s hbk hx3 a0 a1 a2 HCL
      have HZ1 := Lib.hid (show z1 < w.heap.size + 3 by have := HZ.out; omega)
      have HFIN := Lib.hid (fun (X : World) (hX : Ext w5 X) (A9 : Option Addr) (c9 : Nat) (w9 : World) (ho9 : kSe.own 46 w9 w2.heap.size (fun q => g < q ∧ q ≠ zb) (.slice A9 (N + 1) c9) (b.secs ++ [⟨e, false, [v], [t]⟩])) (hb9 : ∀ B, B ≤ w2.heap.size → Below B X w9) (hk9 : ∀ j, j < X.heap.size → j ≠ g → w9.heap[j]? = X.heap[j]?) (hn9 : ∀ j, (Value.slice A9 (N + 1) c9).ownBlock = some j → j = g ∨ X.heap.size ≤ j) =>
        (show AdC w w2 zb (N + 1) b.ms b.ht (b.secs ++ [⟨e, false, [v], [t]⟩]) ((w9.setCell ⟨zb, 2, none⟩ (.slice A9 (N + 1) c9))) by
          have hzX : zb < X.heap.size := Nat.lt_of_lt_of_le (lt_of_block HB5.out) hX.lt
          have h1 : w9.heap[zb]? = some (.cells #[.int .i64 b.ms, .int .i64 b.ht, .slice (some ⟨g, 0, none⟩) N N] 27 (0, 0)) := (hk9 zb hzX (by have := HZB.out.1; omega)).trans ((hX.block _ (lt_of_block HB5.out)).trans HB5.out)
          have hw2 := (HX0.out.trans HX2.out).lt
          have hzz := HZB.out
          have hgg := HG.out
          have hlt := Lay.own_lt ho9
          refine ⟨fun j hj => (heap_setCell_other _ ⟨zb, 2, none⟩ j _ (by show j ≠ zb; omega)).trans ((hk9 j (by have := hX.lt; omega) (by omega)).trans ((hX.block j (by omega)).trans (HX25.out.block j hj))), A9, c9, heap_setCell_same _ zb 2 _ 27 _ h1, ?_, ?_, ?_⟩
          · obtain ⟨A8, c8, e8, h8, _⟩ := Lay.own_row ho9
            obtain ⟨_, e2, e3⟩ := Value.slice.inj e8
            rw [e2, e3]; exact h8
          · have hz0 := HZ.out
            have ho10 := Lay.own_keep (W' := w9.setCell ⟨zb, 2, none⟩ (.slice A9 (N + 1) c9)) ho9 (by simp) (fun j hj _ => heap_setCell_other _ ⟨zb, 2, none⟩ j _ (by
              rcases hj with hj | hj
              · exact hj.2
              · intro e9
                have := hn9 j hj
                have e9' : j = zb := e9
                omega))
            obtain ⟨A8, c8, e8, _, h8⟩ := Lay.own_row ho10
            obtain ⟨e1, e2, _⟩ := Value.slice.inj e8
            rw [← e1, ← e2] at h8
            exact Lay.row_mono h8 fun j hj _ => by
              rcases hj with hj | hj
              · omega
              · have := hlt j hj; omega
          · exact Ext.setCell (p := ⟨zb, 2, none⟩) (Below.trans ((HX0.out.trans HX5.out).trans hX) (hb9 w.heap.size hw2)) (by show w.heap.size ≤ zb; omega) _))
      have HTX5 := Lib.hid (fun X (hX : Ext w5 X) => HTX.out X ((HX0.out.trans HX5.out).trans hX))
      have HAPP := Lib.hid (fun X (hX : Ext w5 X) (gv gt : Nat) (A7 A8 : Option Addr) (n7 c7 n8 c8 : Nat) h1 h2 h3 h4 h5 h6 h7 h8 => sec_app (R := fun q => g < q ∧ q ≠ zb) (e := e) (v := v) (t := t) (gv := gv) (gt := gt) (A7 := A7) (A8 := A8) (n7 := n7) (c7 := c7) (n8 := n8) (c8 := c8) (fun j hj => by have := HZB.out; omega) HOW.out HN.out (by omega) HZB.out.2.2 (by have := HZB.out; omega) hX h1 h2 h3 h4 h5 h6 h7 h8)
      have HS9 := Lib.hid (fun X (hX : Ext w5 X) (w9 : World) (hk9 : ∀ j, j < X.heap.size → j ≠ g → w9.heap[j]? = X.heap[j]?) => (show w9.cell? ⟨zb, 2, none⟩ = some (.slice (some ⟨g, 0, none⟩) N N) ∧ w9.cell? ⟨z1, 0, none⟩ = some (.slice A3 n3 c3) ∧ w9.cell? ⟨z1, 1, none⟩ = some (.slice A4 n4 c4) by
        have h1 := (HC.out X (HX5.out.trans hX)).2.1
        have h2 := (hX.block _ (lt_of_block HB5.out)).trans HB5.out
        have l1 := lt_of_block h1
        have l2 := lt_of_block h2
        have hzz := HZB.out
        have hgg := HG.out
        have hz0 := HZ.out
        have hxx := HX0.out.lt
        have n1 : z1 ≠ g := by
          have := lt_of_block (HC.out w2 HX2.out).2.1
          omega
        have e1 := (hk9 z1 l1 n1).trans h1
        have e2 := (hk9 zb l2 (by omega)).trans h2
        exact ⟨cell_of e2 (i := 2) rfl, cell_of e1 (i := 0) rfl, cell_of e1 (i := 1) rfl⟩))
      have HTXa := Lib.hid (show Calls Tryz.prog 84 #[.agg #[.slice A3 n3 c3, .slice A4 n4 c4]] w5.drew (fun e w' => ∃ v, e = .returned v ∧ TxV w' (fun j => w5.drew.heap.size ≤ j) t v ∧ Ext w5.drew w') from HTX5.out _ (Ext.refl _).drew)
      have HTXb := Lib.hid (show Calls Tryz.prog 84 #[.agg #[.slice A3 n3 c3, .slice A4 n4 c4]] (w5.alloc (.cells #[.int .i64 v] 3)).drew (fun e w' => ∃ v', e = .returned v' ∧ TxV w' (fun j => (w5.alloc (.cells #[.int .i64 v] 3)).drew.heap.size ≤ j) t v' ∧ Ext (w5.alloc (.cells #[.int .i64 v] 3)).drew w') from HTX5.out _ ((Ext.refl _).alloc _).drew)
      have HAP1 := Lib.hid (fun (wG : World) (hxG : Ext ((w5.alloc (.cells #[.int .i64 v] 3)).drew) wG) (A7 A8 : Option Addr) (n7 c7 n8 c8 : Nat) (h7 : n7 ≤ c7) (h8 : n8 ≤ c8) (hr7 : kWs.row wG (fun j => ((w5.alloc (.cells #[.int .i64 v] 3)).drew).heap.size ≤ j) A7 n7 t.paras) (hr8 : kWs.row wG (fun j => ((w5.alloc (.cells #[.int .i64 v] 3)).drew).heap.size ≤ j) A8 n8 t.notes) =>
        (show ∃ A9 c9 w9, (Builtin.append_ #[25, 25] 25 #[.slice (some ⟨g, 0, none⟩) N N, .slice (some ⟨wG.heap.size + 1, 0, none⟩) 1 1]).run Tryz.prog ((wG.alloc (.cells #[.slice A7 n7 c7, .slice A8 n8 c8] 53)).alloc (.cells #[.int .i64 e, .bool false, .slice (some ⟨w5.heap.size, 0, none⟩) 1 1, .slice (some ⟨wG.heap.size, 0, none⟩) 1 1] 46)) = .ok (.slice A9 (N + 1) c9) w9 ∧ AdC w w2 zb (N + 1) b.ms b.ht (b.secs ++ [⟨e, false, [v], [t]⟩]) (w9.setCell ⟨zb, 2, none⟩ (.slice A9 (N + 1) c9)) ∧
            (w9.cell? ⟨zb, 2, none⟩ = some (.slice (some ⟨g, 0, none⟩) N N) ∧ w9.cell? ⟨z1, 0, none⟩ = some (.slice A3 n3 c3) ∧ w9.cell? ⟨z1, 1, none⟩ = some (.slice A4 n4 c4)) ∧ w9.frozen? ⟨zb, 2, none⟩ = false by
          have hX : Ext w5 (wG.alloc (.cells #[.slice A7 n7 c7, .slice A8 n8 c8] 53)) := (((Ext.refl _).alloc _).drew.trans hxG).alloc _
          have hs5 : w5.drew.heap.size = w5.heap.size := rfl
          have hsx := hxG.lt
          obtain ⟨A9, c9, w9, hrun, ho9, hb9, hk9, hs9, hn9⟩ := HAPP.out (wG.alloc (.cells #[.slice A7 n7 c7, .slice A8 n8 c8] 53)) hX w5.heap.size wG.heap.size A7 A8 n7 c7 n8 c8 ((heap_alloc_old _ _ _ (by simp at hsx; omega)).trans ((hxG.block _ (by simp)).trans (heap_alloc_at w5 _ _ _ rfl))) (Nat.le_refl _) (heap_alloc_at _ _ _ _ rfl) (by simp at hsx; omega) h7 h8
            (Lay.row_mono (Lay.row_ext hr7 ((Ext.refl _).alloc _)) fun j hj _ => by simp at hj; omega) (Lay.row_mono (Lay.row_ext hr8 ((Ext.refl _).alloc _)) fun j hj _ => by simp at hj; omega)
          rw [show (wG.alloc (.cells #[.slice A7 n7 c7, .slice A8 n8 c8] 53)).heap.size = wG.heap.size + 1 by simp] at hrun
          have hzX : zb < (wG.alloc (.cells #[.slice A7 n7 c7, .slice A8 n8 c8] 53)).heap.size := Nat.lt_of_lt_of_le (lt_of_block HB5.out) hX.lt
          have h1 : w9.heap[zb]? = some (.cells #[.int .i64 b.ms, .int .i64 b.ht, .slice (some ⟨g, 0, none⟩) N N] 27 (0, 0)) := (hk9 zb hzX (by have := HZB.out.1; omega)).trans ((hX.block _ (lt_of_block HB5.out)).trans HB5.out)
          exact ⟨A9, c9, w9, hrun, HFIN.out _ hX A9 c9 w9 ho9 hb9 hk9 hn9, HS9.out _ hX w9 hk9, frozen_of h1 2⟩))
      have HAP2 := Lib.hid (fun (wG : World) (hxG : Ext w5.drew wG) (A7 A8 : Option Addr) (n7 c7 n8 c8 : Nat) (h7 : n7 ≤ c7) (h8 : n8 ≤ c8) (hr7 : kWs.row wG (fun j => w5.drew.heap.size ≤ j) A7 n7 t.paras) (hr8 : kWs.row wG (fun j => w5.drew.heap.size ≤ j) A8 n8 t.notes) =>
        (show ∃ A9 c9 w9, (Builtin.append_ #[25, 25] 25 #[.slice (some ⟨g, 0, none⟩) N N, .slice (some ⟨wG.heap.size + 1 + 1, 0, none⟩) 1 1]).run Tryz.prog (((wG.alloc (.cells #[.int .i64 v] 3)).alloc (.cells #[.slice A7 n7 c7, .slice A8 n8 c8] 53)).alloc (.cells #[.int .i64 e, .bool false, .slice (some ⟨wG.heap.size, 0, none⟩) 1 1, .slice (some ⟨(wG.heap.size + 1), 0, none⟩) 1 1] 46)) = .ok (.slice A9 (N + 1) c9) w9 ∧ AdC w w2 zb (N + 1) b.ms b.ht (b.secs ++ [⟨e, false, [v], [t]⟩]) (w9.setCell ⟨zb, 2, none⟩ (.slice A9 (N + 1) c9)) ∧
            (w9.cell? ⟨zb, 2, none⟩ = some (.slice (some ⟨g, 0, none⟩) N N) ∧ w9.cell? ⟨z1, 0, none⟩ = some (.slice A3 n3 c3) ∧ w9.cell? ⟨z1, 1, none⟩ = some (.slice A4 n4 c4)) ∧ w9.frozen? ⟨zb, 2, none⟩ = false by
          have hX : Ext w5 ((wG.alloc (.cells #[.int .i64 v] 3)).alloc (.cells #[.slice A7 n7 c7, .slice A8 n8 c8] 53)) := (((Ext.refl _).drew.trans hxG).alloc _).alloc _
          have hs5 : w5.drew.heap.size = w5.heap.size := rfl
          have hsx := hxG.lt
          obtain ⟨A9, c9, w9, hrun, ho9, hb9, hk9, hs9, hn9⟩ := HAPP.out ((wG.alloc (.cells #[.int .i64 v] 3)).alloc (.cells #[.slice A7 n7 c7, .slice A8 n8 c8] 53)) hX wG.heap.size (wG.heap.size + 1) A7 A8 n7 c7 n8 c8 ((heap_alloc_old _ _ _ (by simp)).trans (heap_alloc_at _ _ _ _ rfl)) (by omega) (heap_alloc_at _ _ _ _ (by simp)) (by omega) h7 h8
            (Lay.row_mono (Lay.row_ext hr7 (((Ext.refl _).alloc _).alloc _)) fun j hj _ => by simp at hj; omega) (Lay.row_mono (Lay.row_ext hr8 (((Ext.refl _).alloc _).alloc _)) fun j hj _ => by simp at hj; omega)
          rw [show ((wG.alloc (.cells #[.int .i64 v] 3)).alloc (.cells #[.slice A7 n7 c7, .slice A8 n8 c8] 53)).heap.size = wG.heap.size + 1 + 1 by simp] at hrun
          have hzX : zb < ((wG.alloc (.cells #[.int .i64 v] 3)).alloc (.cells #[.slice A7 n7 c7, .slice A8 n8 c8] 53)).heap.size := Nat.lt_of_lt_of_le (lt_of_block HB5.out) hX.lt
          have h1 : w9.heap[zb]? = some (.cells #[.int .i64 b.ms, .int .i64 b.ht, .slice (some ⟨g, 0, none⟩) N N] 27 (0, 0)) := (hk9 zb hzX (by have := HZB.out.1; omega)).trans ((hX.block _ (lt_of_block HB5.out)).trans HB5.out)
          exact ⟨A9, c9, w9, hrun, HFIN.out _ hX A9 c9 w9 ho9 hb9 hk9 hn9, HS9.out _ hX w9 hk9, frozen_of h1 2⟩))
      have HAP3 := Lib.hid (fun (wG : World) (hxG : Ext w5.drew wG) (A7 A8 : Option Addr) (n7 c7 n8 c8 : Nat) (h7 : n7 ≤ c7) (h8 : n8 ≤ c8) (hr7 : kWs.row wG (fun j => w5.drew.heap.size ≤ j) A7 n7 t.paras) (hr8 : kWs.row wG (fun j => w5.drew.heap.size ≤ j) A8 n8 t.notes) =>
        (show ∃ A9 c9 w9, (Builtin.append_ #[25, 25] 25 #[.slice (some ⟨g, 0, none⟩) N N, .slice (some ⟨wG.heap.size + 1 + 1, 0, none⟩) 1 1]).run Tryz.prog (((wG.alloc (.cells #[.slice A7 n7 c7, .slice A8 n8 c8] 53)).alloc (.cells #[.int .i64 v] 3)).alloc (.cells #[.int .i64 e, .bool false, .slice (some ⟨(wG.heap.size + 1), 0, none⟩) 1 1, .slice (some ⟨wG.heap.size, 0, none⟩) 1 1] 46)) = .ok (.slice A9 (N + 1) c9) w9 ∧ AdC w w2 zb (N + 1) b.ms b.ht (b.secs ++ [⟨e, false, [v], [t]⟩]) (w9.setCell ⟨zb, 2, none⟩ (.slice A9 (N + 1) c9)) ∧
            (w9.cell? ⟨zb, 2, none⟩ = some (.slice (some ⟨g, 0, none⟩) N N) ∧ w9.cell? ⟨z1, 0, none⟩ = some (.slice A3 n3 c3) ∧ w9.cell? ⟨z1, 1, none⟩ = some (.slice A4 n4 c4)) ∧ w9.frozen? ⟨zb, 2, none⟩ = false by
          have hX : Ext w5 ((wG.alloc (.cells #[.slice A7 n7 c7, .slice A8 n8 c8] 53)).alloc (.cells #[.int .i64 v] 3)) := (((Ext.refl _).drew.trans hxG).alloc _).alloc _
          have hs5 : w5.drew.heap.size = w5.heap.size := rfl
          have hsx := hxG.lt
          obtain ⟨A9, c9, w9, hrun, ho9, hb9, hk9, hs9, hn9⟩ := HAPP.out ((wG.alloc (.cells #[.slice A7 n7 c7, .slice A8 n8 c8] 53)).alloc (.cells #[.int .i64 v] 3)) hX (wG.heap.size + 1) wG.heap.size A7 A8 n7 c7 n8 c8 (heap_alloc_at _ _ _ _ (by simp)) (by omega) ((heap_alloc_old _ _ _ (by simp)).trans (heap_alloc_at _ _ _ _ rfl)) (by omega) h7 h8
            (Lay.row_mono (Lay.row_ext hr7 (((Ext.refl _).alloc _).alloc _)) fun j hj _ => by simp at hj; omega) (Lay.row_mono (Lay.row_ext hr8 (((Ext.refl _).alloc _).alloc _)) fun j hj _ => by simp at hj; omega)
          rw [show ((wG.alloc (.cells #[.slice A7 n7 c7, .slice A8 n8 c8] 53)).alloc (.cells #[.int .i64 v] 3)).heap.size = wG.heap.size + 1 + 1 by simp] at hrun
          have hzX : zb < ((wG.alloc (.cells #[.slice A7 n7 c7, .slice A8 n8 c8] 53)).alloc (.cells #[.int .i64 v] 3)).heap.size := Nat.lt_of_lt_of_le (lt_of_block HB5.out) hX.lt
          have h1 : w9.heap[zb]? = some (.cells #[.int .i64 b.ms, .int .i64 b.ht, .slice (some ⟨g, 0, none⟩) N N] 27 (0, 0)) := (hk9 zb hzX (by have := HZB.out.1; omega)).trans ((hX.block _ (lt_of_block HB5.out)).trans HB5.out)
          exact ⟨A9, c9, w9, hrun, HFIN.out _ hX A9 c9 w9 ho9 hb9 hk9 hn9, HS9.out _ hX w9 hk9, frozen_of h1 2⟩))
      clear HAPP HFIN HS9 HTX5
      go_cut [45] (fun _ wx => AdC w w2 zb (N + 1) b.ms b.ht (b.secs ++ [⟨e, false, [v], [t]⟩]) wx)
      case first =>
        have hS0 : (fun X : World => X.cell? ⟨zb, 2, none⟩ = some (.slice (some ⟨g, 0, none⟩) N N) ∧ X.cell? ⟨z1, 0, none⟩ = some (.slice A3 n3 c3) ∧ X.cell? ⟨z1, 1, none⟩ = some (.slice A4 n4 c4)) w5.drew := HQ.out _ (Ext.refl _).drew
        refine wp_region_E (fun X : World => X.cell? ⟨zb, 2, none⟩ = some (.slice (some ⟨g, 0, none⟩) N N) ∧ X.cell? ⟨z1, 0, none⟩ = some (.slice A3 n3 c3) ∧ X.cell? ⟨z1, 1, none⟩ = some (.slice A4 n4 c4)) (fun _ => True) (fun i => i == 12) (by kernel_rfl) ?_
        refine wpE_takeS (i := 0) (d := some 35) (v := .pointer (some ⟨zb, 2, none⟩)) rfl rfl (by kernel_rfl) (by kernel_rfl) (by kernel_rfl) (by kernel_rfl) (fun _ _ _ h => h) (by rfl) ?hy1 hS0 trivial ?go1
        case hy1 =>
          intro w9 hT9
          clear hT9; go_simp
        (try simp only [Act.put, List.setIfInBounds_toArray, List.set_cons_zero, List.set_cons_succ])
        refine wpE_takeS (i := 1) (d := some 36) (v := .slice (some ⟨g, 0, none⟩) N N) rfl rfl (by kernel_rfl) (by kernel_rfl) (by kernel_rfl) (by kernel_rfl) (fun _ _ _ h => h) (by rfl) ?hy2 hS0 trivial ?go2
        case hy2 =>
          intro w9 hT9
          obtain ⟨y0, y1, y2⟩ := hT9; go_simp
        (try simp only [Act.put, List.setIfInBounds_toArray, List.set_cons_zero, List.set_cons_succ])
        refine wpE_takeS (i := 2) (d := some 37) (v := .int .i64 e) rfl rfl (by kernel_rfl) (by kernel_rfl) (by kernel_rfl) (by kernel_rfl) (fun _ _ _ h => h) (by rfl) ?hy3 hS0 trivial ?go3
        case hy3 =>
          intro w9 hT9
          clear hT9; go_simp
        (try simp only [Act.put, List.setIfInBounds_toArray, List.set_cons_zero, List.set_cons_succ])
        refine wpE_takeS (i := 3) (d := some 38) (v := .int .i64 v) rfl rfl (by kernel_rfl) (by kernel_rfl) (by kernel_rfl) (by kernel_rfl) (fun _ _ _ h => h) (by rfl) ?hy4 hS0 trivial ?go4
        case hy4 =>
          intro w9 hT9
          clear hT9; go_simp
        (try simp only [Act.put, List.setIfInBounds_toArray, List.set_cons_zero, List.set_cons_succ])
        refine wpE_takeS (i := 5) (d := some 40) (v := .agg #[.slice A3 n3 c3, .slice A4 n4 c4]) rfl rfl (by kernel_rfl) (by kernel_rfl) (by kernel_rfl) (by kernel_rfl) (fun _ _ _ h => h) (by rfl) ?hy5 hS0 trivial ?go5
        case hy5 =>
          intro w9 hT9
          obtain ⟨y0, y1, y2⟩ := hT9; go_simp
        (try simp only [Act.put, List.setIfInBounds_toArray, List.set_cons_zero, List.set_cons_succ])
        refine wpE_all (rs := [4, 6]) (by kernel_rfl) (by simp) ?_
        refine AllE.cons rfl (fun K hK => ?_) (AllE.cons rfl (fun K hK => ?_) AllE.nil)
        · skip
          simp only [List.getElem_toArray, List.getElem_cons_succ, List.getElem_cons_zero]
          go_simp
          refine hK.out _ _ ⟨fun _ => (HQ.out _ ((Ext.refl w5).alloc (.cells #[.int .i64 v] 3)).drew), trivial⟩ (fun _ => ?_)
          clear hK K
          have hS0 := (HQ.out _ ((Ext.refl w5).alloc (.cells #[.int .i64 v] 3)).drew)
          (try simp only [Act.put, List.setIfInBounds_toArray, List.set_cons_zero, List.set_cons_succ])
          refine wpE_all (rs := [6]) (by kernel_rfl) (by simp) ?_
          refine AllE.cons rfl (fun K hK => ?_) AllE.nil
          simp only [List.getElem_toArray, List.getElem_cons_succ, List.getElem_cons_zero]
          go_simp
          go_at_call 84
          refine (HTXb.out).mono ?_
          rintro z9 wG ⟨_, rfl, ⟨A7, n7, c7, A8, n8, c8, rfl, h7, h8, hr7, hr8⟩, hxG⟩
          have hcur : Ext w5 wG := ((Ext.refl _).alloc _).drew.trans hxG
          simp only []
          refine hK.out _ _ ⟨fun _ => (HQ.out _ hcur), trivial⟩ (fun _ => ?_)
          clear hK K
          have hS0 := (HQ.out _ hcur)
          (try simp only [Act.put, List.setIfInBounds_toArray, List.set_cons_zero, List.set_cons_succ])
          refine wpE_all (rs := [7]) (by kernel_rfl) (by simp) ?_
          refine AllE.cons rfl (fun K hK => ?_) AllE.nil
          simp only [List.getElem_toArray, List.getElem_cons_succ, List.getElem_cons_zero]
          go_simp
          refine hK.out _ _ ⟨fun _ => (HQ.out _ (hcur.alloc (.cells #[.slice A7 n7 c7, .slice A8 n8 c8] 53))), trivial⟩ (fun _ => ?_)
          clear hK K
          have hS0 := (HQ.out _ (hcur.alloc (.cells #[.slice A7 n7 c7, .slice A8 n8 c8] 53)))
          (try simp only [Act.put, List.setIfInBounds_toArray, List.set_cons_zero, List.set_cons_succ])
          refine wpE_takeS (i := 8) (d := some 43) (v := .agg #[.int .i64 e, .bool false, .slice (some ⟨w5.heap.size, 0, none⟩) 1 1, .slice (some ⟨wG.heap.size, 0, none⟩) 1 1]) rfl rfl (by kernel_rfl) (by kernel_rfl) (by kernel_rfl) (by kernel_rfl) (fun _ _ _ h => h) (by rfl) ?hy6 hS0 trivial ?go6
          case hy6 =>
            intro w9 hT9
            clear hT9; go_simp
          (try simp only [Act.put, List.setIfInBounds_toArray, List.set_cons_zero, List.set_cons_succ])
          refine wpE_all (rs := [9]) (by kernel_rfl) (by simp) ?_
          refine AllE.cons rfl (fun K hK => ?_) AllE.nil
          simp only [List.getElem_toArray, List.getElem_cons_succ, List.getElem_cons_zero]
          go_simp
          refine hK.out _ _ ⟨fun _ => (HQ.out _ ((hcur.alloc (.cells #[.slice A7 n7 c7, .slice A8 n8 c8] 53)).alloc (.cells #[.int .i64 e, .bool false, .slice (some ⟨w5.heap.size, 0, none⟩) 1 1, .slice (some ⟨wG.heap.size, 0, none⟩) 1 1] 46))), trivial⟩ (fun _ => ?_)
          clear hK K
          have hS0 := (HQ.out _ ((hcur.alloc (.cells #[.slice A7 n7 c7, .slice A8 n8 c8] 53)).alloc (.cells #[.int .i64 e, .bool false, .slice (some ⟨w5.heap.size, 0, none⟩) 1 1, .slice (some ⟨wG.heap.size, 0, none⟩) 1 1] 46)))
          (try simp only [Act.put, List.setIfInBounds_toArray, List.set_cons_zero, List.set_cons_succ])
          refine wpE_all (rs := [10]) (by kernel_rfl) (by simp) ?_
          refine AllE.cons rfl (fun K hK => ?_) AllE.nil
          simp only [List.getElem_toArray, List.getElem_cons_succ, List.getElem_cons_zero]
          obtain ⟨A9, c9, w9, hrun, hrel, HS, hf9⟩ := HAP1.out wG hxG A7 A8 n7 c7 n8 c8 h7 h8 hr7 hr8
          have HREL := Lib.hid hrel
          clear hrel
          refine step_append_tm (s := .tmp 36) (x := .tmp 44) hrun rfl rfl rfl rfl rfl ?_
          refine hK.out _ _ ⟨fun _ => HS, trivial⟩ (fun _ => ?_)
          clear hK K
          have hS0 := HS
          (try simp only [Act.put, List.setIfInBounds_toArray, List.set_cons_zero, List.set_cons_succ])
          refine wpE_takeS (i := 11) (d := some 46) (v := .pointer (some ⟨zb, 2, none⟩)) rfl rfl (by kernel_rfl) (by kernel_rfl) (by kernel_rfl) (by kernel_rfl) (fun _ _ _ h => h) (by rfl) ?hy7 hS0 trivial ?go7
          case hy7 =>
            intro w9 hT9
            clear hT9; go_simp
          (try simp only [Act.put, List.setIfInBounds_toArray, List.set_cons_zero, List.set_cons_succ])
          refine wpE_all (rs := [12]) (by kernel_rfl) (by simp) ?_
          refine AllE.cons rfl (fun K hK => ?_) AllE.nil
          simp only [List.getElem_toArray, List.getElem_cons_succ, List.getElem_cons_zero]
          have z5 := HS.1
          go_simp
          refine hK.out _ _ ⟨fun h => absurd h (by simp), trivial⟩ (fun _ => ?_)
          clear hK K
          (try simp only [Act.put, List.setIfInBounds_toArray, List.set_cons_zero, List.set_cons_succ])
          refine wpE_done (by kernel_rfl) ?_ _
          go_wp2_with fail
          go_meet
          case rel => exact HREL.out
        · skip
          simp only [List.getElem_toArray, List.getElem_cons_succ, List.getElem_cons_zero]
          go_simp
          go_at_call 84
          refine (HTXa.out).mono ?_
          rintro z9 wG ⟨_, rfl, ⟨A7, n7, c7, A8, n8, c8, rfl, h7, h8, hr7, hr8⟩, hxG⟩
          have hcur : Ext w5 wG := (Ext.refl _).drew.trans hxG
          simp only []
          refine hK.out _ _ ⟨fun _ => (HQ.out _ hcur), trivial⟩ (fun _ => ?_)
          clear hK K
          have hS0 := (HQ.out _ hcur)
          (try simp only [Act.put, List.setIfInBounds_toArray, List.set_cons_zero, List.set_cons_succ])
          refine wpE_all (rs := [4, 7]) (by kernel_rfl) (by simp) ?_
          refine AllE.cons rfl (fun K hK => ?_) (AllE.cons rfl (fun K hK => ?_) AllE.nil)
          · skip
            simp only [List.getElem_toArray, List.getElem_cons_succ, List.getElem_cons_zero]
            go_simp
            refine hK.out _ _ ⟨fun _ => (HQ.out _ (hcur.alloc (.cells #[.int .i64 v] 3))), trivial⟩ (fun _ => ?_)
            clear hK K
            have hS0 := (HQ.out _ (hcur.alloc (.cells #[.int .i64 v] 3)))
            (try simp only [Act.put, List.setIfInBounds_toArray, List.set_cons_zero, List.set_cons_succ])
            refine wpE_all (rs := [7]) (by kernel_rfl) (by simp) ?_
            refine AllE.cons rfl (fun K hK => ?_) AllE.nil
            simp only [List.getElem_toArray, List.getElem_cons_succ, List.getElem_cons_zero]
            go_simp
            refine hK.out _ _ ⟨fun _ => (HQ.out _ ((hcur.alloc (.cells #[.int .i64 v] 3)).alloc (.cells #[.slice A7 n7 c7, .slice A8 n8 c8] 53))), trivial⟩ (fun _ => ?_)
            clear hK K
            have hS0 := (HQ.out _ ((hcur.alloc (.cells #[.int .i64 v] 3)).alloc (.cells #[.slice A7 n7 c7, .slice A8 n8 c8] 53)))
            (try simp only [Act.put, List.setIfInBounds_toArray, List.set_cons_zero, List.set_cons_succ])
            refine wpE_takeS (i := 8) (d := some 43) (v := .agg #[.int .i64 e, .bool false, .slice (some ⟨wG.heap.size, 0, none⟩) 1 1, .slice (some ⟨wG.heap.size + 1, 0, none⟩) 1 1]) rfl rfl (by kernel_rfl) (by kernel_rfl) (by kernel_rfl) (by kernel_rfl) (fun _ _ _ h => h) (by rfl) ?hy8 hS0 trivial ?go8
            case hy8 =>
              intro w9 hT9
              clear hT9; go_simp
            (try simp only [Act.put, List.setIfInBounds_toArray, List.set_cons_zero, List.set_cons_succ])
            refine wpE_all (rs := [9]) (by kernel_rfl) (by simp) ?_
            refine AllE.cons rfl (fun K hK => ?_) AllE.nil
            simp only [List.getElem_toArray, List.getElem_cons_succ, List.getElem_cons_zero]
            go_simp
            refine hK.out _ _ ⟨fun _ => (HQ.out _ (((hcur.alloc (.cells #[.int .i64 v] 3)).alloc (.cells #[.slice A7 n7 c7, .slice A8 n8 c8] 53)).alloc (.cells #[.int .i64 e, .bool false, .slice (some ⟨wG.heap.size, 0, none⟩) 1 1, .slice (some ⟨wG.heap.size + 1, 0, none⟩) 1 1] 46))), trivial⟩ (fun _ => ?_)
            clear hK K
            have hS0 := (HQ.out _ (((hcur.alloc (.cells #[.int .i64 v] 3)).alloc (.cells #[.slice A7 n7 c7, .slice A8 n8 c8] 53)).alloc (.cells #[.int .i64 e, .bool false, .slice (some ⟨wG.heap.size, 0, none⟩) 1 1, .slice (some ⟨wG.heap.size + 1, 0, none⟩) 1 1] 46)))
            (try simp only [Act.put, List.setIfInBounds_toArray, List.set_cons_zero, List.set_cons_succ])
            refine wpE_all (rs := [10]) (by kernel_rfl) (by simp) ?_
            refine AllE.cons rfl (fun K hK => ?_) AllE.nil
            simp only [List.getElem_toArray, List.getElem_cons_succ, List.getElem_cons_zero]
            obtain ⟨A9, c9, w9, hrun, hrel, HS, hf9⟩ := HAP2.out wG hxG A7 A8 n7 c7 n8 c8 h7 h8 hr7 hr8
            have HREL := Lib.hid hrel
            clear hrel
            refine step_append_tm (s := .tmp 36) (x := .tmp 44) hrun rfl rfl rfl rfl rfl ?_
            refine hK.out _ _ ⟨fun _ => HS, trivial⟩ (fun _ => ?_)
            clear hK K
            have hS0 := HS
            (try simp only [Act.put, List.setIfInBounds_toArray, List.set_cons_zero, List.set_cons_succ])
            refine wpE_takeS (i := 11) (d := some 46) (v := .pointer (some ⟨zb, 2, none⟩)) rfl rfl (by kernel_rfl) (by kernel_rfl) (by kernel_rfl) (by kernel_rfl) (fun _ _ _ h => h) (by rfl) ?hy9 hS0 trivial ?go9
            case hy9 =>
              intro w9 hT9
              clear hT9; go_simp
            (try simp only [Act.put, List.setIfInBounds_toArray, List.set_cons_zero, List.set_cons_succ])
            refine wpE_all (rs := [12]) (by kernel_rfl) (by simp) ?_
            refine AllE.cons rfl (fun K hK => ?_) AllE.nil
            simp only [List.getElem_toArray, List.getElem_cons_succ, List.getElem_cons_zero]
            have z5 := HS.1
            go_simp
            refine hK.out _ _ ⟨fun h => absurd h (by simp), trivial⟩ (fun _ => ?_)
            clear hK K
            (try simp only [Act.put, List.setIfInBounds_toArray, List.set_cons_zero, List.set_cons_succ])
            refine wpE_done (by kernel_rfl) ?_ _
            go_wp2_with fail
            go_meet
            case rel => exact HREL.out
          · skip
            simp only [List.getElem_toArray, List.getElem_cons_succ, List.getElem_cons_zero]
            go_simp
            refine hK.out _ _ ⟨fun _ => (HQ.out _ (hcur.alloc (.cells #[.slice A7 n7 c7, .slice A8 n8 c8] 53))), trivial⟩ (fun _ => ?_)
            clear hK K
            have hS0 := (HQ.out _ (hcur.alloc (.cells #[.slice A7 n7 c7, .slice A8 n8 c8] 53)))
            (try simp only [Act.put, List.setIfInBounds_toArray, List.set_cons_zero, List.set_cons_succ])
            refine wpE_all (rs := [4]) (by kernel_rfl) (by simp) ?_
            refine AllE.cons rfl (fun K hK => ?_) AllE.nil
            simp only [List.getElem_toArray, List.getElem_cons_succ, List.getElem_cons_zero]
            go_simp
            refine hK.out _ _ ⟨fun _ => (HQ.out _ ((hcur.alloc (.cells #[.slice A7 n7 c7, .slice A8 n8 c8] 53)).alloc (.cells #[.int .i64 v] 3))), trivial⟩ (fun _ => ?_)
            clear hK K
            have hS0 := (HQ.out _ ((hcur.alloc (.cells #[.slice A7 n7 c7, .slice A8 n8 c8] 53)).alloc (.cells #[.int .i64 v] 3)))
            (try simp only [Act.put, List.setIfInBounds_toArray, List.set_cons_zero, List.set_cons_succ])
            refine wpE_takeS (i := 8) (d := some 43) (v := .agg #[.int .i64 e, .bool false, .slice (some ⟨wG.heap.size + 1, 0, none⟩) 1 1, .slice (some ⟨wG.heap.size, 0, none⟩) 1 1]) rfl rfl (by kernel_rfl) (by kernel_rfl) (by kernel_rfl) (by kernel_rfl) (fun _ _ _ h => h) (by rfl) ?hy10 hS0 trivial ?go10
            case hy10 =>
              intro w9 hT9
              clear hT9; go_simp
            (try simp only [Act.put, List.setIfInBounds_toArray, List.set_cons_zero, List.set_cons_succ])
            refine wpE_all (rs := [9]) (by kernel_rfl) (by simp) ?_
            refine AllE.cons rfl (fun K hK => ?_) AllE.nil
            simp only [List.getElem_toArray, List.getElem_cons_succ, List.getElem_cons_zero]
            go_simp
            refine hK.out _ _ ⟨fun _ => (HQ.out _ (((hcur.alloc (.cells #[.slice A7 n7 c7, .slice A8 n8 c8] 53)).alloc (.cells #[.int .i64 v] 3)).alloc (.cells #[.int .i64 e, .bool false, .slice (some ⟨wG.heap.size + 1, 0, none⟩) 1 1, .slice (some ⟨wG.heap.size, 0, none⟩) 1 1] 46))), trivial⟩ (fun _ => ?_)
            clear hK K
            have hS0 := (HQ.out _ (((hcur.alloc (.cells #[.slice A7 n7 c7, .slice A8 n8 c8] 53)).alloc (.cells #[.int .i64 v] 3)).alloc (.cells #[.int .i64 e, .bool false, .slice (some ⟨wG.heap.size + 1, 0, none⟩) 1 1, .slice (some ⟨wG.heap.size, 0, none⟩) 1 1] 46)))
            (try simp only [Act.put, List.setIfInBounds_toArray, List.set_cons_zero, List.set_cons_succ])
            refine wpE_all (rs := [10]) (by kernel_rfl) (by simp) ?_
            refine AllE.cons rfl (fun K hK => ?_) AllE.nil
            simp only [List.getElem_toArray, List.getElem_cons_succ, List.getElem_cons_zero]
            obtain ⟨A9, c9, w9, hrun, hrel, HS, hf9⟩ := HAP3.out wG hxG A7 A8 n7 c7 n8 c8 h7 h8 hr7 hr8
            have HREL := Lib.hid hrel
            clear hrel
            refine step_append_tm (s := .tmp 36) (x := .tmp 44) hrun rfl rfl rfl rfl rfl ?_
            refine hK.out _ _ ⟨fun _ => HS, trivial⟩ (fun _ => ?_)
            clear hK K
            have hS0 := HS
            (try simp only [Act.put, List.setIfInBounds_toArray, List.set_cons_zero, List.set_cons_succ])
            refine wpE_takeS (i := 11) (d := some 46) (v := .pointer (some ⟨zb, 2, none⟩)) rfl rfl (by kernel_rfl) (by kernel_rfl) (by kernel_rfl) (by kernel_rfl) (fun _ _ _ h => h) (by rfl) ?hy11 hS0 trivial ?go11
            case hy11 =>
              intro w9 hT9
              clear hT9; go_simp
            (try simp only [Act.put, List.setIfInBounds_toArray, List.set_cons_zero, List.set_cons_succ])
            refine wpE_all (rs := [12]) (by kernel_rfl) (by simp) ?_
            refine AllE.cons rfl (fun K hK => ?_) AllE.nil
            simp only [List.getElem_toArray, List.getElem_cons_succ, List.getElem_cons_zero]
            have z5 := HS.1
            go_simp
            refine hK.out _ _ ⟨fun h => absurd h (by simp), trivial⟩ (fun _ => ?_)
            clear hK K
            (try simp only [Act.put, List.setIfInBounds_toArray, List.set_cons_zero, List.set_cons_succ])
            refine wpE_done (by kernel_rfl) ?_ _
            go_wp2_with fail
            go_meet
            case rel => exact HREL.out
      case rest =>
        obtain ⟨hk9, A9, c9, hb9, hc9, hr9, hx9⟩ := hcut
        have a0 := cell_of hb9 (i := 0) (u := .int .i64 b.ms) rfl
        have a1 := cell_of hb9 (i := 1) (u := .int .i64 b.ht) rfl
        have a2 := cell_of hb9 (i := 2) (u := .slice A9 (N + 1) c9) rfl
        have hR2 := (HC.out w2 HX2.out).2.2
        have HR9 := Lib.hid ((hk9 z2 (lt_of_block hR2)).trans hR2)
        have HX9 := Lib.hid hx9
        have hzl := lt_of_block hR2
        have hwl := (HX0.out.trans HX2.out).lt
        have HZL := Lib.hid (And.intro hzl hwl)
        have HRO := Lib.hid hr9
        clear hzl hwl hk9 hb9 hr9 hx9 hR2 HAP1 HAP2 HAP3 HTXa HTXb HTX HQ
        by_cases hc : 16384 < np
        · have HE0 := Lib.hid (show addE b e v t = 2 by rw [HE.out, if_pos hc])
          have HF := Lib.hid (show Calls Tryz.prog 85 #[.agg #[.int .i64 b.ms, .int .i64 b.ht, .slice A9 (N + 1) c9]] wc (fun z9 wf => Ext wc wf ∧ z9 = .returned (.tuple #[.agg #[.int .i64 0, .int .i64 0, .slice none 0 0], .int .i64 2])) from by
            refine (HFT.out _ HX9.out A9 c9 (Lay.row_mono HRO.out fun j hj _ => Nat.le_trans HZL.out.2 hj)).mono ?_
            rintro z9 wf ⟨hxf, (⟨hnp, rfl⟩ | ⟨hnp, rfl⟩)⟩
            · omega
            · exact ⟨hxf, rfl⟩)
          clear HFT
          go_wp2_with (first | (go_at_call 85; refine (HF.out).mono ?_; rintro z9 wf ⟨hxf, rfl⟩; have hRf := (hxf.block _ (lt_of_block HR9.out)).trans HR9.out; obtain ⟨k0, k1, k2, j0, j1, j2⟩ := BkR.of hRf; have HRF := Lib.hid hRf; clear hRf))
          have hs := st3 HRF.out (.int .i64 0) (.int .i64 0) (.slice none 0 0)
          have q0 := cell_of hs (i := 0) rfl
          have q1 := cell_of hs (i := 1) rfl
          have q2 := cell_of hs (i := 2) rfl
          refine bodyPost_ret (v := .tuple #[.agg #[.int .i64 0, .int .i64 0, .slice none 0 0], .int .i64 2]) (by simp [results, Tryz.results37, go_sem, q0, q1, q2]) rfl ?_
          refine ⟨ext3 (HX9.out.trans hxf) (by have := HZ.out; omega) _ _ _, ?_⟩
          exact .inl ⟨by rw [HE0.out]; decide, by rw [HE0.out]⟩
        · have HE0 := Lib.hid (show addE b e v t = 0 by rw [HE.out, if_neg hc])
          have HF := Lib.hid (show Calls Tryz.prog 85 #[.agg #[.int .i64 b.ms, .int .i64 b.ht, .slice A9 (N + 1) c9]] wc (fun z9 wf => Ext wc wf ∧ z9 = .returned (.tuple #[.agg #[.int .i64 b.ms, .int .i64 b.ht, .slice A9 (N + 1) c9], .int .i64 0])) from by
            refine (HFT.out _ HX9.out A9 c9 (Lay.row_mono HRO.out fun j hj _ => Nat.le_trans HZL.out.2 hj)).mono ?_
            rintro z9 wf ⟨hxf, (⟨hnp, rfl⟩ | ⟨hnp, rfl⟩)⟩
            · exact ⟨hxf, rfl⟩
            · omega)
          clear HFT
          go_wp2_with (first | (go_at_call 85; refine (HF.out).mono ?_; rintro z9 wf ⟨hxf, rfl⟩; have hRf := (hxf.block _ (lt_of_block HR9.out)).trans HR9.out; obtain ⟨k0, k1, k2, j0, j1, j2⟩ := BkR.of hRf; have HRF := Lib.hid hRf; clear hRf))
          have hs := st3 HRF.out (.int .i64 b.ms) (.int .i64 b.ht) (.slice A9 (N + 1) c9)
          have q0 := cell_of hs (i := 0) rfl
          have q1 := cell_of hs (i := 1) rfl
          have q2 := cell_of hs (i := 2) rfl
          refine bodyPost_ret (v := .tuple #[.agg #[.int .i64 b.ms, .int .i64 b.ht, .slice A9 (N + 1) c9], .int .i64 0]) (by simp [results, Tryz.results37, go_sem, q0, q1, q2]) rfl ?_
          refine ⟨ext3 (HX9.out.trans hxf) (by have := HZ.out; omega) _ _ _, ?_⟩
          refine .inr ⟨HE0.out, A9, N + 1, c9, rfl, hc9, Lay.row_mono (Lay.row_keep HRO.out (by have := hxf.lt; simp; omega) fun j hj hl => ?_) fun j hj _ => Nat.le_trans HZL.out.2 hj⟩
          have hz9 : j ≠ z2 := by have := HZL.out.1; omega
          exact (heap_setCell_other _ ⟨z2, 2, none⟩ j _ hz9).trans ((heap_setCell_other _ ⟨z2, 1, none⟩ j _ hz9).trans ((heap_setCell_other _ ⟨z2, 0, none⟩ j _ hz9).trans (hxf.block j hl)))
end Go.Proofs.YtdbnddmncbjobaaGreatDoor
