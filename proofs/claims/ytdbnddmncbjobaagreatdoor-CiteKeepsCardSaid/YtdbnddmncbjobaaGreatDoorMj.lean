/- book.Add: walked. -/
import Derived.Test.YtdbnddmncbjobaaGreatDoorMi
import Derived.Test.YtdbnddmncbjobaaGreatDoorMf
import Derived.Test.YtdbnddmncbjobaaGreatDoorMc
import Derived.Test.YtdbnddmncbjobaaGreatDoorMh
import Derived.Deep.QuietTactic
import Derived.BigQuiet
namespace Go.Proofs.YtdbnddmncbjobaaGreatDoor
open Go Go.RowKit

theorem BkO.own {W : World} {base : Nat} {ls : List Se} {g n : Nat} (h : BkO W base ls g) (hn : n = ls.length) (hn2 : n ≤ 1000000) : kSe.own 46 W base (fun q => g < q) (.slice (some ⟨g, 0, none⟩) n n) ls := by
  obtain ⟨ds, h0, h1, h2, h3⟩ := h
  have hl := gcells_len (cf := ccf) ccf_len ds
  refine ⟨ds, ⟨gcells_len ccf_len _, .inr ⟨g, n, _, by rw [h2, hn], h0, h1, by rw [h2, hn]; exact Nat.le_refl _, by simp only [maxLen]; omega, by rw [List.size_toArray, hl, h2, hn], by rw [show (gcells ccf ds).toArray.toList = gcells ccf ds from rfl, List.take_of_length_le (by rw [hl]; exact Nat.le_refl _)]⟩⟩, h2, fun i d x hd hx => ?_⟩
  exact kSe.mono (h3 i d x hd hx) fun q hq _ => ⟨hq, by simp [Value.ownBlock]; omega⟩
/-- The error of Add at a good text. -/
def addE (b : Bk) (e v : Int) (t : Tx) : Int :=
  if 0 ≤ idxI (fun x => x.ent == e) b.secs then 4
  else if (decide (0 ≤ e) && decide (e ≤ 65535)) = false ∨ (decide (0 ≤ v) && decide (v ≤ 2147483647)) = false then 5
  else if 16384 < (pagesB (addP b e v t)).length then 2 else 0
/-- A book, or an error. -/
def OpPost (w : World) (er ms ht : Int) (ls : List Se) (z : Ending) (w' : World) : Prop :=
  Ext w w' ∧ ((er ≠ 0 ∧ z = .returned (.tuple #[.agg #[.int .i64 0, .int .i64 0, .slice none 0 0], .int .i64 er])) ∨
    (er = 0 ∧ ∃ A n c, z = .returned (.tuple #[.agg #[.int .i64 ms, .int .i64 ht, .slice A n c], .int .i64 0]) ∧ n ≤ c ∧ kSe.row w' (fun j => w.heap.size ≤ j) A n ls))
/-- The result's cells. -/
structure BkR (z : Nat) (W : World) : Prop where
  c0 : W.cell? ⟨z, 0, none⟩ = some (.int .i64 0)
  c1 : W.cell? ⟨z, 1, none⟩ = some (.int .i64 0)
  c2 : W.cell? ⟨z, 2, none⟩ = some (.slice none 0 0)
  f0 : W.frozen? ⟨z, 0, none⟩ = false
  f1 : W.frozen? ⟨z, 1, none⟩ = false
  f2 : W.frozen? ⟨z, 2, none⟩ = false
theorem BkR.of {z : Nat} {W : World} (h : W.heap[z]? = some (.cells #[.int .i64 0, .int .i64 0, .slice none 0 0] 27 (0, 0))) : BkR z W :=
  ⟨cell_of h (i := 0) rfl, cell_of h (i := 1) rfl, cell_of h (i := 2) rfl, frozen_of h 0, frozen_of h 1, frozen_of h 2⟩
/-- The book that Add has made, in block zb. -/
def AdC (w w2 : World) (zb n : Nat) (ms ht : Int) (ls : List Se) (wx : World) : Prop := (∀ j, j < w2.heap.size → wx.heap[j]? = w2.heap[j]?) ∧ ∃ A9 c9, wx.heap[zb]? = some (.cells #[.int .i64 ms, .int .i64 ht, .slice A9 n c9] 27 (0, 0)) ∧ n ≤ c9 ∧ kSe.row wx (fun j => w2.heap.size ≤ j) A9 n ls ∧ Ext w wx
/-- append of a section of one version. -/
theorem sec_app {w5 X : World} {base g n : Nat} {ls : List Se} {R : Nat → Prop} (hR : ∀ j, w5.heap.size ≤ j → R j) (h : kSe.own 46 w5 base R (.slice (some ⟨g, 0, none⟩) n n) ls) (hn : n = ls.length) (hn2 : n ≤ 1000000) (hb : base ≤ w5.heap.size) (hg : g < w5.heap.size) (hX : Ext w5 X) {gv gt : Nat} {e v : Int} {t : Tx} {A7 A8 : Option Addr} {n7 c7 n8 c8 : Nat}
    (hgv : X.heap[gv]? = some (.cells #[.int .i64 v] 3 (0, 0))) (hv5 : w5.heap.size ≤ gv) (hgt : X.heap[gt]? = some (.cells #[.slice A7 n7 c7, .slice A8 n8 c8] 53 (0, 0))) (ht5 : w5.heap.size ≤ gt) (h7 : n7 ≤ c7) (h8 : n8 ≤ c8)
    (r7 : kWs.row X (fun j => w5.heap.size ≤ j) A7 n7 t.paras) (r8 : kWs.row X (fun j => w5.heap.size ≤ j) A8 n8 t.notes) :
    ∃ A' c' w', (Builtin.append_ #[25, 25] 25 #[.slice (some ⟨g, 0, none⟩) n n, .slice (some ⟨X.heap.size, 0, none⟩) 1 1]).run Tryz.prog (X.alloc (.cells #[.int .i64 e, .bool false, .slice (some ⟨gv, 0, none⟩) 1 1, .slice (some ⟨gt, 0, none⟩) 1 1] 46)) = .ok (.slice A' (n + 1) c') w' ∧
      kSe.own 46 w' base R (.slice A' (n + 1) c') (ls ++ [⟨e, false, [v], [t]⟩]) ∧ (∀ B, B ≤ base → Below B X w') ∧ (∀ j, j < X.heap.size → j ≠ g → w'.heap[j]? = X.heap[j]?) ∧ X.heap.size ≤ w'.heap.size ∧ (∀ j, (Value.slice A' (n + 1) c').ownBlock = some j → j = g ∨ X.heap.size ≤ j) := by
  have hrv : kInt.row X (fun j => w5.heap.size ≤ j) (some ⟨gv, 0, none⟩) 1 [v] := by
    have ha : Arr X gv [v] := hgv
    exact ha.row _ hv5
  have hrt : kTx.row X (fun j => w5.heap.size ≤ j) (some ⟨gt, 0, none⟩) 1 [t] := by
    have hrep : kTx.rep X (fun j => w5.heap.size ≤ j) t [.slice A7 n7 c7, .slice A8 n8 c8] := kTx_rep.2 ⟨A7, n7, c7, A8, n8, c8, rfl, h7, h8, r7, r8⟩
    obtain ⟨d0, hd0⟩ : ∃ d0 : Cs kTx.sz, ccf d0 = [.slice A7 n7 c7, .slice A8 n8 c8] := mkCs _ (kTx.len hrep) (kTx.one hrep)
    refine ⟨[d0], rfl, rfl, ⟨rfl, fun _ => ⟨gt, 0, rfl, lt_of_block hgt, fun i d hd j u hu => ?_⟩⟩, fun x hx => ?_, fun i d x hd hx => ?_⟩
    · cases i with
      | zero =>
        injection hd with hd
        subst hd
        rw [hd0] at hu
        rw [Nat.zero_mul, Nat.zero_add]
        exact cell_of hgt (by simpa using hu)
      | succ i => cases hd
    · injection hx with hx; subst hx; exact ⟨ht5, lt_of_block hgt⟩
    · cases i with
      | zero =>
        injection hd with hd
        injection hx with hx
        subst hd hx
        show kTx.rep X _ t (ccf d0)
        rw [hd0]; exact hrep
      | succ i => cases hd
  have hsub : ∀ j, w5.heap.size ≤ j → j < X.heap.size → R j ∧ (Value.slice (some ⟨g, 0, none⟩) n n).ownBlock ≠ some j := fun j hj _ => ⟨hR j hj, by simp [Value.ownBlock]; omega⟩
  obtain ⟨A', c', w', r1, r2, r3, r4, r5, r6⟩ := own_app1 (k := kSe) (Pr := Tryz.prog) (t := 25) Tryz.underlying25 info46 rfl (by decide) (by omega) (Lay.own_ext h hX) (Nat.le_trans hb hX.lt) (cs := #[.int .i64 e, .bool false, .slice (some ⟨gv, 0, none⟩) 1 1, .slice (some ⟨gt, 0, none⟩) 1 1]) (T := 46) (x := ⟨e, false, [v], [t]⟩)
    (kSe_rep.2 ⟨_, 1, 1, _, 1, 1, rfl, Nat.le_refl _, Nat.le_refl _, Lay.row_mono hrv hsub, Lay.row_mono hrt hsub⟩) 1 (by omega)
  rw [← hn] at r1 r2 r6
  exact ⟨A', c', w', r1, r2, r3, fun j hj hne => r4 j hj (by simp [Value.ownBlock]; omega), r5, fun j hj => (r6 j hj).imp (fun h => by simpa [Value.ownBlock] using h.symm) id⟩
theorem step_append_tm {P : Program} {w : World} {ys : Nat → Option Bool} {o : Oper} {a : Act} {K : Act → World → Prop} {Q : Exit → Act → World → Prop} {E : Prop} {s x : Operand} {t : TypeId} {vs vx v' : Value} {w' : World}
    (hr : (Builtin.append_ #[t, t] t #[vs, vx]).run P w = .ok v' w') (hgd : o.guard = none)
    (ho : o.op = .call { callee := .builtin .append, args := #[s, x], argTypes := #[t, t] }) (hty : o.type = t) (hs : a.eval s = vs) (hx : a.eval x = vx)
    (h : K (a.put o.dst v') w') : if Region.wanted o ys = true then Oper.wp P o a w K Q else E := by
  have hw : Region.wanted o ys = true := by simp [Region.wanted, hgd]
  rw [if_pos hw]
  unfold Oper.wp execOp
  simp only [ho, hty, resolve, invoke, builtin, Sem.run_bind, Sem.run_pure, Result.andThen_ok, List.map_toArray, List.map_cons, List.map_nil, hs, hx, hr]
  exact h
set_option maxHeartbeats 4000000 in
set_option maxRecDepth 100000 in
theorem add_any (P Q : Nat → Prop) (w : World) (b : Bk) (e v : Int) (t : Tx) (A A3 A4 : Option Addr) (N c n3 c3 n4 c4 : Nat) (hb : BkI b) (hh : 4 ≤ b.ht) (hb2 : ¬ 0 ≤ idxI (fun x => x.ent == e) b.secs → BkI (addP b e v t)) (hT : OkT t) (hr : kSe.row w P A N b.secs) (h3 : kWs.row w Q A3 n3 t.paras) (h4 : kWs.row w Q A4 n4 t.notes) (hL : EnvW w) :
    Calls Tryz.prog 37 #[.agg #[.int .i64 b.ms, .int .i64 b.ht, .slice A N c], .int .i64 e, .int .i64 v, .agg #[.slice A3 n3 c3, .slice A4 n4 c4]] w (OpPost w (addE b e v t) b.ms b.ht (b.secs ++ [⟨e, false, [v], [t]⟩])) := by
  have hN := Lay.row_len hr
  have hN6 : N ≤ 1000000 := by have := hb.s.n; omega
  obtain ⟨r, hri⟩ : ∃ r, idxI (fun x => x.ent == e) b.secs = r := ⟨_, rfl⟩
  obtain ⟨r1, hr1⟩ : ∃ r1, (decide (0 ≤ e) && decide (e ≤ 65535)) = r1 := ⟨_, rfl⟩
  obtain ⟨r2, hr2⟩ : ∃ r2, (decide (0 ≤ v) && decide (v ≤ 2147483647)) = r2 := ⟨_, rfl⟩
  have HFD := Lib.hid (fun X (hX : Ext w X) => (show Calls Tryz.prog 81 #[.agg #[.int .i64 b.ms, .int .i64 b.ht, .slice A N c], .int .i64 e] X (fun z w' => z = .returned (.int .i64 r) ∧ Ext X w') from by rw [← hri]; exact find_any P X b.ms b.ht e b.secs A N c (Lay.row_ext hr hX) hN6))
  have HW1 := Lib.hid (fun X => (show Calls Tryz.prog 82 #[.int .i64 e, .int .i64 0, .int .i64 65535] X (fun z w' => z = .returned (.bool r1) ∧ X = w') from by rw [← hr1]; exact within_any X e 0 65535))
  have HW2 := Lib.hid (fun X => (show Calls Tryz.prog 82 #[.int .i64 v, .int .i64 0, .int .i64 2147483647] X (fun z w' => z = .returned (.bool r2) ∧ X = w') from by rw [← hr2]; exact within_any X v 0 2147483647))
  have HWR := Lib.hid (fun X (hX : Ext w X) => wrong_ok Q X b.ms b.ht A N c t A3 A4 n3 n4 c3 c4 (Lay.row_ext h3 hX) (Lay.row_ext h4 hX) hT hb.m0 hb.m1 hh hb.h.2 (hL.ext hX))
  have HCL := Lib.hid (fun X (hX : Ext w X) => cloned_any P X b A N c (Lay.row_ext hr hX) hb.s)
  have HTX := Lib.hid (fun X (hX : Ext w X) => text_any Q X t A3 A4 n3 n4 c3 c4 (Lay.row_ext h3 hX) (Lay.row_ext h4 hX) (by have := Lay.row_len h3; have := hT.np; omega) (by have := Lay.row_len h4; have := hT.nn; omega) hT.small.len)
  have HFT0 := Lib.hid (fun (h : r < 0) X (hX : Ext w X) (A9 : Option Addr) (c9 : Nat) h9 => bfits_any (fun j => w.heap.size ≤ j) X (addP b e v t) A9 (N + 1) c9 (hb2 (by rw [hri]; omega)) h9 (hL.ext hX))
  have HER := Lib.hid (show addE b e v t = if 0 ≤ r then 4 else if r1 = false ∨ r2 = false then 5 else if 16384 < (pagesB (addP b e v t)).length then 2 else 0 by unfold addE; rw [hri, hr1, hr2])
  obtain ⟨np, hnp⟩ : ∃ np, (pagesB (addP b e v t)).length = np := ⟨_, rfl⟩
  rw [hnp] at HFT0 HER
  have HN := Lib.hid hN
  clear hb hb2 hh hT hr h3 h4 hL hri hr1 hr2 hN hnp
  go_enter Tryz.func37, Tryz.ntmps37
  go_upto_region 1 with (fail)
  obtain ⟨W0, hW0⟩ : ∃ W0, ((w.alloc (.cells #[.int .i64 b.ms, .int .i64 b.ht, .slice A N c] 27)).alloc (.cells #[.slice A3 n3 c3, .slice A4 n4 c4] 53)).alloc (.cells #[.int .i64 0, .int .i64 0, .slice none 0 0] 27) = W0 := ⟨_, rfl⟩
  obtain ⟨z, hz⟩ : ∃ z, w.heap.size = z := ⟨_, rfl⟩
  have hx0 : Ext w W0 := by rw [← hW0]; exact (((Ext.refl w).alloc _).alloc _).alloc _
  have hB0 : W0.heap[z]? = some (.cells #[.int .i64 b.ms, .int .i64 b.ht, .slice A N c] 27 (0, 0)) := by rw [← hW0, ← hz, heap_alloc_old _ _ _ (by simp; omega), heap_alloc_old _ _ _ (by simp)]; exact heap_alloc_at _ _ _ _ rfl
  have hB1 : W0.heap[z + 1]? = some (.cells #[.slice A3 n3 c3, .slice A4 n4 c4] 53 (0, 0)) := by rw [← hW0, ← hz, heap_alloc_old _ _ _ (by simp)]; exact heap_alloc_at _ _ _ _ (by simp)
  have hB2 : W0.heap[z + 1 + 1]? = some (.cells #[.int .i64 0, .int .i64 0, .slice none 0 0] 27 (0, 0)) := by rw [← hW0, ← hz]; exact heap_alloc_at _ _ _ _ (by simp)
  obtain ⟨z2, hz2⟩ : ∃ z2, z + 1 + 1 = z2 := ⟨_, rfl⟩
  obtain ⟨z1, hz1⟩ : ∃ z1, z + 1 = z1 := ⟨_, rfl⟩
  rw [hz2] at hB2
  rw [hz1] at hB1
  rw [hW0, hz, hz2, hz1]
  have HZ := Lib.hid (show w.heap.size = z ∧ z1 = z + 1 ∧ z2 = z + 2 by omega)
  have HX0 := Lib.hid hx0
  have HC := Lib.hid (fun X (hX : Ext W0 X) => (show X.heap[z]? = some (.cells #[.int .i64 b.ms, .int .i64 b.ht, .slice A N c] 27 (0, 0)) ∧ X.heap[z1]? = some (.cells #[.slice A3 n3 c3, .slice A4 n4 c4] 53 (0, 0)) ∧ X.heap[z2]? = some (.cells #[.int .i64 0, .int .i64 0, .slice none 0 0] 27 (0, 0)) from
    ⟨(hX.block _ (lt_of_block hB0)).trans hB0, (hX.block _ (lt_of_block hB1)).trans hB1, (hX.block _ (lt_of_block hB2)).trans hB2⟩))
  have a0 := cell_of hB0 (i := 0) (u := .int .i64 b.ms) rfl
  have a1 := cell_of hB0 (i := 1) (u := .int .i64 b.ht) rfl
  have a2 := cell_of hB0 (i := 2) (u := .slice A N c) rfl
  clear hW0 hz hx0 hB0 hB1 hB2 hz1 hz2
  go_upto_if 15 with (first | (go_at_call 81; refine (HFD.out _ HX0.out).mono ?_; rintro z9 w1 ⟨rfl, hx1⟩))
  have HX1 := Lib.hid hx1
  obtain ⟨k0, k1, k2, j0, j1, j2⟩ := BkR.of (HC.out w1 hx1).2.2
  clear a0 a1 a2 HFD hx1
  by_cases hge : 0 ≤ r
  · have HE := Lib.hid (show addE b e v t = 4 by rw [HER.out, if_pos hge])
    go_wp2_with fail
    have hs := st3 (HC.out w1 HX1.out).2.2 (.int .i64 0) (.int .i64 0) (.slice none 0 0)
    have q0 := cell_of hs (i := 0) rfl
    have q1 := cell_of hs (i := 1) rfl
    have q2 := cell_of hs (i := 2) rfl
    refine bodyPost_ret (v := .tuple #[.agg #[.int .i64 0, .int .i64 0, .slice none 0 0], .int .i64 4]) (by simp [results, Tryz.results37, go_sem, q0, q1, q2]) rfl ?_
    exact ⟨ext3 (HX0.out.trans HX1.out) (by have := HZ.out; omega) _ _ _, .inl ⟨by rw [HE.out]; decide, by rw [HE.out]⟩⟩
  have hge' : ¬ (0 : Int) ≤ r := hge
  have HFT := Lib.hid (HFT0.out (by omega))
  clear HFT0
  have hbad : ∀ (X : World), Ext W0 X → addE b e v t = 5 → Ext w (((X.setCell ⟨z2, 0, none⟩ (.int .i64 0)).setCell ⟨z2, 1, none⟩ (.int .i64 0)).setCell ⟨z2, 2, none⟩ (.slice none 0 0)) := fun X hX _ => ext3 (HX0.out.trans hX) (by have := HZ.out; omega) _ _ _
  have HBAD := Lib.hid hbad
  clear hbad
  cases r1 with
  | false =>
    have HE := Lib.hid (show addE b e v t = 5 by rw [HER.out, if_neg hge, if_pos (.inl rfl)])
    go_wp2_with (first | (go_at_call_of 82 (Value.int IntKind.i64 e); refine (HW1.out _).mono ?_; rintro z9 w2 ⟨rfl, rfl⟩))
    have hs := st3 (HC.out _ HX1.out).2.2 (.int .i64 0) (.int .i64 0) (.slice none 0 0)
    have q0 := cell_of hs (i := 0) rfl
    have q1 := cell_of hs (i := 1) rfl
    have q2 := cell_of hs (i := 2) rfl
    refine bodyPost_ret (v := .tuple #[.agg #[.int .i64 0, .int .i64 0, .slice none 0 0], .int .i64 5]) (by simp [results, Tryz.results37, go_sem, q0, q1, q2]) rfl ?_
    exact ⟨HBAD.out _ HX1.out HE.out, .inl ⟨by rw [HE.out]; decide, by rw [HE.out]⟩⟩
  | true =>
    cases r2 with
    | false =>
      have HE := Lib.hid (show addE b e v t = 5 by rw [HER.out, if_neg hge, if_pos (.inr rfl)])
      go_wp2_with (first | (go_at_call_of 82 (Value.int IntKind.i64 e); refine (HW1.out _).mono ?_; rintro z9 w2 ⟨rfl, rfl⟩) | (go_at_call_of 82 (Value.int IntKind.i64 v); refine (HW2.out _).mono ?_; rintro z9 w2 ⟨rfl, rfl⟩))
      have hs := st3 (HC.out _ HX1.out).2.2 (.int .i64 0) (.int .i64 0) (.slice none 0 0)
      have q0 := cell_of hs (i := 0) rfl
      have q1 := cell_of hs (i := 1) rfl
      have q2 := cell_of hs (i := 2) rfl
      refine bodyPost_ret (v := .tuple #[.agg #[.int .i64 0, .int .i64 0, .slice none 0 0], .int .i64 5]) (by simp [results, Tryz.results37, go_sem, q0, q1, q2]) rfl ?_
      exact ⟨HBAD.out _ HX1.out HE.out, .inl ⟨by rw [HE.out]; decide, by rw [HE.out]⟩⟩
    | true =>
      have HE := Lib.hid (show addE b e v t = if 16384 < np then 2 else 0 by rw [HER.out, if_neg hge, if_neg (by simp)])
      clear HBAD HER k0 k1 k2 j0 j1 j2
      go_upto_if 24 with (first | (go_at_call_of 82 (Value.int IntKind.i64 e); refine (HW1.out _).mono ?_; rintro z9 w2 ⟨rfl, rfl⟩) | (go_at_call_of 82 (Value.int IntKind.i64 v); refine (HW2.out _).mono ?_; rintro z9 w2 ⟨rfl, rfl⟩))
      clear HW1 HW2
      have hc0 := (HC.out w1 HX1.out).1
      have hc1 := (HC.out w1 HX1.out).2.1
      have a0 := cell_of hc0 (i := 0) (u := .int .i64 b.ms) rfl
      have a1 := cell_of hc0 (i := 1) (u := .int .i64 b.ht) rfl
      have a2 := cell_of hc0 (i := 2) (u := .slice A N c) rfl
      have b0 := cell_of hc1 (i := 0) (u := .slice A3 n3 c3) rfl
      have b1 := cell_of hc1 (i := 1) (u := .slice A4 n4 c4) rfl
      clear hc0 hc1
      go_upto_if 30 with (first | (go_at_call 83; refine (HWR.out _ (HX0.out.trans HX1.out)).mono ?_; rintro z9 w2 ⟨rfl, hx2⟩))
      have HX2 := Lib.hid (HX1.out.trans hx2)
      have hc0 := (HC.out w2 HX2.out).1
      have a0 := cell_of hc0 (i := 0) (u := .int .i64 b.ms) rfl
      have a1 := cell_of hc0 (i := 1) (u := .int .i64 b.ht) rfl
      have a2 := cell_of hc0 (i := 2) (u := .slice A N c) rfl
      clear hc0 hx2 HWR HX1 b0 b1
      go_upto_region 9 with (first | (go_at_call 76; refine (HCL.out _ (HX0.out.trans HX2.out)).mono ?_; rintro z9 w3 ⟨g, rfl, hbk, hx3⟩))
      obtain ⟨w5, hw5⟩ : ∃ w5, w3.alloc (.cells #[.int .i64 b.ms, .int .i64 b.ht, .slice (some ⟨g, 0, none⟩) N N] 27) = w5 := ⟨_, rfl⟩
      obtain ⟨zb, hzb⟩ : ∃ z, w3.heap.size = z := ⟨_, rfl⟩
      have hx5 : Ext w3 w5 := by rw [← hw5]; exact (Ext.refl w3).alloc _
      have hB5 : w5.heap[zb]? = some (.cells #[.int .i64 b.ms, .int .i64 b.ht, .slice (some ⟨g, 0, none⟩) N N] 27 (0, 0)) := by rw [← hw5, ← hzb]; exact heap_alloc_at _ _ _ _ rfl
      rw [hw5, hzb]
      have hgl : g < zb := by obtain ⟨ds, _, h1, _⟩ := hbk; have := lt_of_block h1; omega
      have h5s : w5.heap.size = zb + 1 := by rw [← hw5, World.size_alloc, hzb]
      have HOW := Lib.hid (Lay.own_ext (Lay.own_mono (P' := fun q => g < q ∧ q ≠ zb) (hbk.own HN.out (by omega)) (fun q hq hl => ⟨hq, by omega⟩)) hx5)
      have HG := Lib.hid (show w.heap.size ≤ g ∧ w2.heap.size ≤ g from by
        obtain ⟨ds, h0, _⟩ := hbk
        have := (HX0.out.trans HX2.out).lt
        exact ⟨by omega, h0⟩)
      have HX5 := Lib.hid (HX2.out.trans (hx3.trans hx5))
      have HX25 := Lib.hid (hx3.trans hx5)
      have HB5 := Lib.hid hB5
      have HZB := Lib.hid (show g < zb ∧ w5.heap.size = zb + 1 ∧ w2.heap.size ≤ w5.heap.size from ⟨hgl, h5s, (hx3.trans hx5).lt⟩)
      have HQ := Lib.hid (fun X (hX : Ext w5 X) => (show X.cell? ⟨zb, 2, none⟩ = some (.slice (some ⟨g, 0, none⟩) N N) ∧ X.cell? ⟨z1, 0, none⟩ = some (.slice A3 n3 c3) ∧ X.cell? ⟨z1, 1, none⟩ = some (.slice A4 n4 c4) from
        have h1 := (HC.out X (HX5.out.trans hX)).2.1
        ⟨cell_of ((hX.block _ (lt_of_block HB5.out)).trans HB5.out) (i := 2) rfl, cell_of h1 (i := 0) rfl, cell_of h1 (i := 1) rfl⟩))
      clear hw5 hzb hx5 hB5 hgl h5s hbk hx3 a0 a1 a2 HCL
      have HZ1 := Lib.hid (show z1 < w.heap.size + 3 by have := HZ.out; omega)
      have HFIN := Lib.hid (fun (X : World) (hX : Ext w5 X) (A9 : Option Addr) (c9 : Nat) (w9 : World) (ho9 : kSe.own 46 w9 w2.heap.size (fun q => g < q ∧ q ≠ zb) (.slice A9 (N + 1) c9) (b.secs ++ [⟨e, false, [v], [t]⟩])) (hb9 : ∀ B, B ≤ w2.heap.size → Below B X w9) (hk9 : ∀ j, j < X.heap.size → j ≠ g → w9.heap[j]? = X.heap[j]?) (hn9 : ∀ j, (Value.slice A9 (N + 1) c9).ownBlock = some j → j = g ∨ X.heap.size ≤ j) =>
        (show AdC w w2 zb (N + 1) b.ms b.ht (b.secs ++ [⟨e, false, [v], [t]⟩]) ((w9.setCell ⟨zb, 2, none⟩ (.slice A9 (N + 1) c9))) by
          have hzX : zb < X.heap.size := Nat.lt_of_lt_of_le (lt_of_block HB5.out) hX.lt
          have h1 : w9.heap[zb]? = some (.cells #[.int .i64 b.ms, .int .i64 b.ht, .slice (some ⟨g, 0, none⟩) N N] 27 (0, 0)) := (hk9 zb hzX (by have := HZB.out.1; omega)).trans ((hX.block _ (lt_of_block HB5.out)).trans HB5.out)
          have hw2 := (HX0.out.trans HX2.out).lt
          have hzz := HZB.out
          have hgg := HG.out
          have hlt := Lay.own_lt ho9
          refine ⟨fun j hj => (heap_setCell_other _ ⟨zb, 2, none⟩ j _ (by show j ≠ zb; omega)).trans ((hk9 j (by have := hX.lt; omega) (by omega)).trans ((hX.block j (by omega)).trans (HX25.out.block j hj))), A9, c9, heap_setCell_same _ zb 2 _ 27 _ h1, ?_, ?_, ?_⟩
          · obtain ⟨A8, c8, e8, h8, _⟩ := Lay.own_row ho9
            obtain ⟨_, e2, e3⟩ := Value.slice.inj e8
            rw [e2, e3]; exact h8
          · have hz0 := HZ.out
            have ho10 := Lay.own_keep (W' := w9.setCell ⟨zb, 2, none⟩ (.slice A9 (N + 1) c9)) ho9 (by simp) (fun j hj _ => heap_setCell_other _ ⟨zb, 2, none⟩ j _ (by
              rcases hj with hj | hj
              · exact hj.2
              · intro e9
                have := hn9 j hj
                have e9' : j = zb := e9
                omega))
            obtain ⟨A8, c8, e8, _, h8⟩ := Lay.own_row ho10
            obtain ⟨e1, e2, _⟩ := Value.slice.inj e8
            rw [← e1, ← e2] at h8
            exact Lay.row_mono h8 fun j hj _ => by
              rcases hj with hj | hj
              · omega
              · have := hlt j hj; omega
          · exact Ext.setCell (p := ⟨zb, 2, none⟩) (Below.trans ((HX0.out.trans HX5.out).trans hX) (hb9 w.heap.size hw2)) (by show w.heap.size ≤ zb; omega) _))
      have HTX5 := Lib.hid (fun X (hX : Ext w5 X) => HTX.out X ((HX0.out.trans HX5.out).trans hX))
      have HAPP := Lib.hid (fun X (hX : Ext w5 X) (gv gt : Nat) (A7 A8 : Option Addr) (n7 c7 n8 c8 : Nat) h1 h2 h3 h4 h5 h6 h7 h8 => sec_app (R := fun q => g < q ∧ q ≠ zb) (e := e) (v := v) (t := t) (gv := gv) (gt := gt) (A7 := A7) (A8 := A8) (n7 := n7) (c7 := c7) (n8 := n8) (c8 := c8) (fun j hj => by have := HZB.out; omega) HOW.out HN.out (by omega) HZB.out.2.2 (by have := HZB.out; omega) hX h1 h2 h3 h4 h5 h6 h7 h8)
      have HS9 := Lib.hid (fun X (hX : Ext w5 X) (w9 : World) (hk9 : ∀ j, j < X.heap.size → j ≠ g → w9.heap[j]? = X.heap[j]?) => (show w9.cell? ⟨zb, 2, none⟩ = some (.slice (some ⟨g, 0, none⟩) N N) ∧ w9.cell? ⟨z1, 0, none⟩ = some (.slice A3 n3 c3) ∧ w9.cell? ⟨z1, 1, none⟩ = some (.slice A4 n4 c4) by
        have h1 := (HC.out X (HX5.out.trans hX)).2.1
        have h2 := (hX.block _ (lt_of_block HB5.out)).trans HB5.out
        have l1 := lt_of_block h1
        have l2 := lt_of_block h2
        have hzz := HZB.out
        have hgg := HG.out
        have hz0 := HZ.out
        have hxx := HX0.out.lt
        have n1 : z1 ≠ g := by
          have := lt_of_block (HC.out w2 HX2.out).2.1
          omega
        have e1 := (hk9 z1 l1 n1).trans h1
        have e2 := (hk9 zb l2 (by omega)).trans h2
        exact ⟨cell_of e2 (i := 2) rfl, cell_of e1 (i := 0) rfl, cell_of e1 (i := 1) rfl⟩))
      have HTXa := Lib.hid (show Calls Tryz.prog 84 #[.agg #[.slice A3 n3 c3, .slice A4 n4 c4]] w5.drew (fun e w' => ∃ v, e = .returned v ∧ TxV w' (fun j => w5.drew.heap.size ≤ j) t v ∧ Ext w5.drew w') from HTX5.out _ (Ext.refl _).drew)
      have HTXb := Lib.hid (show Calls Tryz.prog 84 #[.agg #[.slice A3 n3 c3, .slice A4 n4 c4]] (w5.alloc (.cells #[.int .i64 v] 3)).drew (fun e w' => ∃ v', e = .returned v' ∧ TxV w' (fun j => (w5.alloc (.cells #[.int .i64 v] 3)).drew.heap.size ≤ j) t v' ∧ Ext (w5.alloc (.cells #[.int .i64 v] 3)).drew w') from HTX5.out _ ((Ext.refl _).alloc _).drew)
      have HAP1 := Lib.hid (fun (wG : World) (hxG : Ext ((w5.alloc (.cells #[.int .i64 v] 3)).drew) wG) (A7 A8 : Option Addr) (n7 c7 n8 c8 : Nat) (h7 : n7 ≤ c7) (h8 : n8 ≤ c8) (hr7 : kWs.row wG (fun j => ((w5.alloc (.cells #[.int .i64 v] 3)).drew).heap.size ≤ j) A7 n7 t.paras) (hr8 : kWs.row wG (fun j => ((w5.alloc (.cells #[.int .i64 v] 3)).drew).heap.size ≤ j) A8 n8 t.notes) =>
        (show ∃ A9 c9 w9, (Builtin.append_ #[25, 25] 25 #[.slice (some ⟨g, 0, none⟩) N N, .slice (some ⟨wG.heap.size + 1, 0, none⟩) 1 1]).run Tryz.prog ((wG.alloc (.cells #[.slice A7 n7 c7, .slice A8 n8 c8] 53)).alloc (.cells #[.int .i64 e, .bool false, .slice (some ⟨w5.heap.size, 0, none⟩) 1 1, .slice (some ⟨wG.heap.size, 0, none⟩) 1 1] 46)) = .ok (.slice A9 (N + 1) c9) w9 ∧ AdC w w2 zb (N + 1) b.ms b.ht (b.secs ++ [⟨e, false, [v], [t]⟩]) (w9.setCell ⟨zb, 2, none⟩ (.slice A9 (N + 1) c9)) ∧
            (w9.cell? ⟨zb, 2, none⟩ = some (.slice (some ⟨g, 0, none⟩) N N) ∧ w9.cell? ⟨z1, 0, none⟩ = some (.slice A3 n3 c3) ∧ w9.cell? ⟨z1, 1, none⟩ = some (.slice A4 n4 c4)) ∧ w9.frozen? ⟨zb, 2, none⟩ = false by
          have hX : Ext w5 (wG.alloc (.cells #[.slice A7 n7 c7, .slice A8 n8 c8] 53)) := (((Ext.refl _).alloc _).drew.trans hxG).alloc _
          have hs5 : w5.drew.heap.size = w5.heap.size := rfl
          have hsx := hxG.lt
          obtain ⟨A9, c9, w9, hrun, ho9, hb9, hk9, hs9, hn9⟩ := HAPP.out (wG.alloc (.cells #[.slice A7 n7 c7, .slice A8 n8 c8] 53)) hX w5.heap.size wG.heap.size A7 A8 n7 c7 n8 c8 ((heap_alloc_old _ _ _ (by simp at hsx; omega)).trans ((hxG.block _ (by simp)).trans (heap_alloc_at w5 _ _ _ rfl))) (Nat.le_refl _) (heap_alloc_at _ _ _ _ rfl) (by simp at hsx; omega) h7 h8
            (Lay.row_mono (Lay.row_ext hr7 ((Ext.refl _).alloc _)) fun j hj _ => by simp at hj; omega) (Lay.row_mono (Lay.row_ext hr8 ((Ext.refl _).alloc _)) fun j hj _ => by simp at hj; omega)
          rw [show (wG.alloc (.cells #[.slice A7 n7 c7, .slice A8 n8 c8] 53)).heap.size = wG.heap.size + 1 by simp] at hrun
          have hzX : zb < (wG.alloc (.cells #[.slice A7 n7 c7, .slice A8 n8 c8] 53)).heap.size := Nat.lt_of_lt_of_le (lt_of_block HB5.out) hX.lt
          have h1 : w9.heap[zb]? = some (.cells #[.int .i64 b.ms, .int .i64 b.ht, .slice (some ⟨g, 0, none⟩) N N] 27 (0, 0)) := (hk9 zb hzX (by have := HZB.out.1; omega)).trans ((hX.block _ (lt_of_block HB5.out)).trans HB5.out)
          exact ⟨A9, c9, w9, hrun, HFIN.out _ hX A9 c9 w9 ho9 hb9 hk9 hn9, HS9.out _ hX w9 hk9, frozen_of h1 2⟩))
      have HAP2 := Lib.hid (fun (wG : World) (hxG : Ext w5.drew wG) (A7 A8 : Option Addr) (n7 c7 n8 c8 : Nat) (h7 : n7 ≤ c7) (h8 : n8 ≤ c8) (hr7 : kWs.row wG (fun j => w5.drew.heap.size ≤ j) A7 n7 t.paras) (hr8 : kWs.row wG (fun j => w5.drew.heap.size ≤ j) A8 n8 t.notes) =>
        (show ∃ A9 c9 w9, (Builtin.append_ #[25, 25] 25 #[.slice (some ⟨g, 0, none⟩) N N, .slice (some ⟨wG.heap.size + 1 + 1, 0, none⟩) 1 1]).run Tryz.prog (((wG.alloc (.cells #[.int .i64 v] 3)).alloc (.cells #[.slice A7 n7 c7, .slice A8 n8 c8] 53)).alloc (.cells #[.int .i64 e, .bool false, .slice (some ⟨wG.heap.size, 0, none⟩) 1 1, .slice (some ⟨(wG.heap.size + 1), 0, none⟩) 1 1] 46)) = .ok (.slice A9 (N + 1) c9) w9 ∧ AdC w w2 zb (N + 1) b.ms b.ht (b.secs ++ [⟨e, false, [v], [t]⟩]) (w9.setCell ⟨zb, 2, none⟩ (.slice A9 (N + 1) c9)) ∧
            (w9.cell? ⟨zb, 2, none⟩ = some (.slice (some ⟨g, 0, none⟩) N N) ∧ w9.cell? ⟨z1, 0, none⟩ = some (.slice A3 n3 c3) ∧ w9.cell? ⟨z1, 1, none⟩ = some (.slice A4 n4 c4)) ∧ w9.frozen? ⟨zb, 2, none⟩ = false by
          have hX : Ext w5 ((wG.alloc (.cells #[.int .i64 v] 3)).alloc (.cells #[.slice A7 n7 c7, .slice A8 n8 c8] 53)) := (((Ext.refl _).drew.trans hxG).alloc _).alloc _
          have hs5 : w5.drew.heap.size = w5.heap.size := rfl
          have hsx := hxG.lt
          obtain ⟨A9, c9, w9, hrun, ho9, hb9, hk9, hs9, hn9⟩ := HAPP.out ((wG.alloc (.cells #[.int .i64 v] 3)).alloc (.cells #[.slice A7 n7 c7, .slice A8 n8 c8] 53)) hX wG.heap.size (wG.heap.size + 1) A7 A8 n7 c7 n8 c8 ((heap_alloc_old _ _ _ (by simp)).trans (heap_alloc_at _ _ _ _ rfl)) (by omega) (heap_alloc_at _ _ _ _ (by simp)) (by omega) h7 h8
            (Lay.row_mono (Lay.row_ext hr7 (((Ext.refl _).alloc _).alloc _)) fun j hj _ => by simp at hj; omega) (Lay.row_mono (Lay.row_ext hr8 (((Ext.refl _).alloc _).alloc _)) fun j hj _ => by simp at hj; omega)
          rw [show ((wG.alloc (.cells #[.int .i64 v] 3)).alloc (.cells #[.slice A7 n7 c7, .slice A8 n8 c8] 53)).heap.size = wG.heap.size + 1 + 1 by simp] at hrun
          have hzX : zb < ((wG.alloc (.cells #[.int .i64 v] 3)).alloc (.cells #[.slice A7 n7 c7, .slice A8 n8 c8] 53)).heap.size := Nat.lt_of_lt_of_le (lt_of_block HB5.out) hX.lt
          have h1 : w9.heap[zb]? = some (.cells #[.int .i64 b.ms, .int .i64 b.ht, .slice (some ⟨g, 0, none⟩) N N] 27 (0, 0)) := (hk9 zb hzX (by have := HZB.out.1; omega)).trans ((hX.block _ (lt_of_block HB5.out)).trans HB5.out)
          exact ⟨A9, c9, w9, hrun, HFIN.out _ hX A9 c9 w9 ho9 hb9 hk9 hn9, HS9.out _ hX w9 hk9, frozen_of h1 2⟩))
      have HAP3 := Lib.hid (fun (wG : World) (hxG : Ext w5.drew wG) (A7 A8 : Option Addr) (n7 c7 n8 c8 : Nat) (h7 : n7 ≤ c7) (h8 : n8 ≤ c8) (hr7 : kWs.row wG (fun j => w5.drew.heap.size ≤ j) A7 n7 t.paras) (hr8 : kWs.row wG (fun j => w5.drew.heap.size ≤ j) A8 n8 t.notes) =>
        (show ∃ A9 c9 w9, (Builtin.append_ #[25, 25] 25 #[.slice (some ⟨g, 0, none⟩) N N, .slice (some ⟨wG.heap.size + 1 + 1, 0, none⟩) 1 1]).run Tryz.prog (((wG.alloc (.cells #[.slice A7 n7 c7, .slice A8 n8 c8] 53)).alloc (.cells #[.int .i64 v] 3)).alloc (.cells #[.int .i64 e, .bool false, .slice (some ⟨(wG.heap.size + 1), 0, none⟩) 1 1, .slice (some ⟨wG.heap.size, 0, none⟩) 1 1] 46)) = .ok (.slice A9 (N + 1) c9) w9 ∧ AdC w w2 zb (N + 1) b.ms b.ht (b.secs ++ [⟨e, false, [v], [t]⟩]) (w9.setCell ⟨zb, 2, none⟩ (.slice A9 (N + 1) c9)) ∧
            (w9.cell? ⟨zb, 2, none⟩ = some (.slice (some ⟨g, 0, none⟩) N N) ∧ w9.cell? ⟨z1, 0, none⟩ = some (.slice A3 n3 c3) ∧ w9.cell? ⟨z1, 1, none⟩ = some (.slice A4 n4 c4)) ∧ w9.frozen? ⟨zb, 2, none⟩ = false by
          have hX : Ext w5 ((wG.alloc (.cells #[.slice A7 n7 c7, .slice A8 n8 c8] 53)).alloc (.cells #[.int .i64 v] 3)) := (((Ext.refl _).drew.trans hxG).alloc _).alloc _
          have hs5 : w5.drew.heap.size = w5.heap.size := rfl
          have hsx := hxG.lt
          obtain ⟨A9, c9, w9, hrun, ho9, hb9, hk9, hs9, hn9⟩ := HAPP.out ((wG.alloc (.cells #[.slice A7 n7 c7, .slice A8 n8 c8] 53)).alloc (.cells #[.int .i64 v] 3)) hX (wG.heap.size + 1) wG.heap.size A7 A8 n7 c7 n8 c8 (heap_alloc_at _ _ _ _ (by simp)) (by omega) ((heap_alloc_old _ _ _ (by simp)).trans (heap_alloc_at _ _ _ _ rfl)) (by omega) h7 h8
            (Lay.row_mono (Lay.row_ext hr7 (((Ext.refl _).alloc _).alloc _)) fun j hj _ => by simp at hj; omega) (Lay.row_mono (Lay.row_ext hr8 (((Ext.refl _).alloc _).alloc _)) fun j hj _ => by simp at hj; omega)
          rw [show ((wG.alloc (.cells #[.slice A7 n7 c7, .slice A8 n8 c8] 53)).alloc (.cells #[.int .i64 v] 3)).heap.size = wG.heap.size + 1 + 1 by simp] at hrun
          have hzX : zb < ((wG.alloc (.cells #[.slice A7 n7 c7, .slice A8 n8 c8] 53)).alloc (.cells #[.int .i64 v] 3)).heap.size := Nat.lt_of_lt_of_le (lt_of_block HB5.out) hX.lt
          have h1 : w9.heap[zb]? = some (.cells #[.int .i64 b.ms, .int .i64 b.ht, .slice (some ⟨g, 0, none⟩) N N] 27 (0, 0)) := (hk9 zb hzX (by have := HZB.out.1; omega)).trans ((hX.block _ (lt_of_block HB5.out)).trans HB5.out)
          exact ⟨A9, c9, w9, hrun, HFIN.out _ hX A9 c9 w9 ho9 hb9 hk9 hn9, HS9.out _ hX w9 hk9, frozen_of h1 2⟩))
      clear HAPP HFIN HS9 HTX5
      go_cut [45] (fun _ wx => AdC w w2 zb (N + 1) b.ms b.ht (b.secs ++ [⟨e, false, [v], [t]⟩]) wx)
      case first =>
        have hS0 : (fun X : World => X.cell? ⟨zb, 2, none⟩ = some (.slice (some ⟨g, 0, none⟩) N N) ∧ X.cell? ⟨z1, 0, none⟩ = some (.slice A3 n3 c3) ∧ X.cell? ⟨z1, 1, none⟩ = some (.slice A4 n4 c4)) w5.drew := HQ.out _ (Ext.refl _).drew
        refine wp_region_E (fun X : World => X.cell? ⟨zb, 2, none⟩ = some (.slice (some ⟨g, 0, none⟩) N N) ∧ X.cell? ⟨z1, 0, none⟩ = some (.slice A3 n3 c3) ∧ X.cell? ⟨z1, 1, none⟩ = some (.slice A4 n4 c4)) (fun _ => True) (fun i => i == 12) (by kernel_rfl) ?_
        refine wpE_takeS (i := 0) (d := some 35) (v := .pointer (some ⟨zb, 2, none⟩)) rfl rfl (by kernel_rfl) (by kernel_rfl) (by kernel_rfl) (by kernel_rfl) (fun _ _ _ h => h) (by rfl) ?hy1 hS0 trivial ?go1
        case hy1 =>
          intro w9 hT9
          clear hT9; go_simp
        (try simp only [Act.put, List.setIfInBounds_toArray, List.set_cons_zero, List.set_cons_succ])
        refine wpE_takeS (i := 1) (d := some 36) (v := .slice (some ⟨g, 0, none⟩) N N) rfl rfl (by kernel_rfl) (by kernel_rfl) (by kernel_rfl) (by kernel_rfl) (fun _ _ _ h => h) (by rfl) ?hy2 hS0 trivial ?go2
        case hy2 =>
          intro w9 hT9
          obtain ⟨y0, y1, y2⟩ := hT9; go_simp
        (try simp only [Act.put, List.setIfInBounds_toArray, List.set_cons_zero, List.set_cons_succ])
        refine wpE_takeS (i := 2) (d := some 37) (v := .int .i64 e) rfl rfl (by kernel_rfl) (by kernel_rfl) (by kernel_rfl) (by kernel_rfl) (fun _ _ _ h => h) (by rfl) ?hy3 hS0 trivial ?go3
        case hy3 =>
          intro w9 hT9
          clear hT9; go_simp
        (try simp only [Act.put, List.setIfInBounds_toArray, List.set_cons_zero, List.set_cons_succ])
        refine wpE_takeS (i := 3) (d := some 38) (v := .int .i64 v) rfl rfl (by kernel_rfl) (by kernel_rfl) (by kernel_rfl) (by kernel_rfl) (fun _ _ _ h => h) (by rfl) ?hy4 hS0 trivial ?go4
        case hy4 =>
          intro w9 hT9
          clear hT9; go_simp
        (try simp only [Act.put, List.setIfInBounds_toArray, List.set_cons_zero, List.set_cons_succ])
        refine wpE_takeS (i := 5) (d := some 40) (v := .agg #[.slice A3 n3 c3, .slice A4 n4 c4]) rfl rfl (by kernel_rfl) (by kernel_rfl) (by kernel_rfl) (by kernel_rfl) (fun _ _ _ h => h) (by rfl) ?hy5 hS0 trivial ?go5
        case hy5 =>
          intro w9 hT9
          obtain ⟨y0, y1, y2⟩ := hT9; go_simp
        (try simp only [Act.put, List.setIfInBounds_toArray, List.set_cons_zero, List.set_cons_succ])
        refine wpE_all (rs := [4, 6]) (by kernel_rfl) (by simp) ?_
        refine AllE.cons rfl (fun K hK => ?_) (AllE.cons rfl (fun K hK => ?_) AllE.nil)
        · skip
          simp only [List.getElem_toArray, List.getElem_cons_succ, List.getElem_cons_zero]
          go_simp
          refine hK.out _ _ ⟨fun _ => (HQ.out _ ((Ext.refl w5).alloc (.cells #[.int .i64 v] 3)).drew), trivial⟩ (fun _ => ?_)
          clear hK K
          have hS0 := (HQ.out _ ((Ext.refl w5).alloc (.cells #[.int .i64 v] 3)).drew)
          (try simp only [Act.put, List.setIfInBounds_toArray, List.set_cons_zero, List.set_cons_succ])
          refine wpE_all (rs := [6]) (by kernel_rfl) (by simp) ?_
          refine AllE.cons rfl (fun K hK => ?_) AllE.nil
          simp only [List.getElem_toArray, List.getElem_cons_succ, List.getElem_cons_zero]
          go_simp
          go_at_call 84
          refine (HTXb.out).mono ?_
          rintro z9 wG ⟨_, rfl, ⟨A7, n7, c7, A8, n8, c8, rfl, h7, h8, hr7, hr8⟩, hxG⟩
          have hcur : Ext w5 wG := ((Ext.refl _).alloc _).drew.trans hxG
          simp only []
          refine hK.out _ _ ⟨fun _ => (HQ.out _ hcur), trivial⟩ (fun _ => ?_)
          clear hK K
          have hS0 := (HQ.out _ hcur)
          (try simp only [Act.put, List.setIfInBounds_toArray, List.set_cons_zero, List.set_cons_succ])
          refine wpE_all (rs := [7]) (by kernel_rfl) (by simp) ?_
          refine AllE.cons rfl (fun K hK => ?_) AllE.nil
          simp only [List.getElem_toArray, List.getElem_cons_succ, List.getElem_cons_zero]
          go_simp
          refine hK.out _ _ ⟨fun _ => (HQ.out _ (hcur.alloc (.cells #[.slice A7 n7 c7, .slice A8 n8 c8] 53))), trivial⟩ (fun _ => ?_)
          clear hK K
          have hS0 := (HQ.out _ (hcur.alloc (.cells #[.slice A7 n7 c7, .slice A8 n8 c8] 53)))
          (try simp only [Act.put, List.setIfInBounds_toArray, List.set_cons_zero, List.set_cons_succ])
          refine wpE_takeS (i := 8) (d := some 43) (v := .agg #[.int .i64 e, .bool false, .slice (some ⟨w5.heap.size, 0, none⟩) 1 1, .slice (some ⟨wG.heap.size, 0, none⟩) 1 1]) rfl rfl (by kernel_rfl) (by kernel_rfl) (by kernel_rfl) (by kernel_rfl) (fun _ _ _ h => h) (by rfl) ?hy6 hS0 trivial ?go6
          case hy6 =>
            intro w9 hT9
            clear hT9; go_simp
          (try simp only [Act.put, List.setIfInBounds_toArray, List.set_cons_zero, List.set_cons_succ])
          refine wpE_all (rs := [9]) (by kernel_rfl) (by simp) ?_
          refine AllE.cons rfl (fun K hK => ?_) AllE.nil
          simp only [List.getElem_toArray, List.getElem_cons_succ, List.getElem_cons_zero]
          go_simp
          refine hK.out _ _ ⟨fun _ => (HQ.out _ ((hcur.alloc (.cells #[.slice A7 n7 c7, .slice A8 n8 c8] 53)).alloc (.cells #[.int .i64 e, .bool false, .slice (some ⟨w5.heap.size, 0, none⟩) 1 1, .slice (some ⟨wG.heap.size, 0, none⟩) 1 1] 46))), trivial⟩ (fun _ => ?_)
          clear hK K
          have hS0 := (HQ.out _ ((hcur.alloc (.cells #[.slice A7 n7 c7, .slice A8 n8 c8] 53)).alloc (.cells #[.int .i64 e, .bool false, .slice (some ⟨w5.heap.size, 0, none⟩) 1 1, .slice (some ⟨wG.heap.size, 0, none⟩) 1 1] 46)))
          (try simp only [Act.put, List.setIfInBounds_toArray, List.set_cons_zero, List.set_cons_succ])
          refine wpE_all (rs := [10]) (by kernel_rfl) (by simp) ?_
          refine AllE.cons rfl (fun K hK => ?_) AllE.nil
          simp only [List.getElem_toArray, List.getElem_cons_succ, List.getElem_cons_zero]
          obtain ⟨A9, c9, w9, hrun, hrel, HS, hf9⟩ := HAP1.out wG hxG A7 A8 n7 c7 n8 c8 h7 h8 hr7 hr8
          have HREL := Lib.hid hrel
          clear hrel
          refine step_append_tm (s := .tmp 36) (x := .tmp 44) hrun rfl rfl rfl rfl rfl ?_
          refine hK.out _ _ ⟨fun _ => HS, trivial⟩ (fun _ => ?_)
          clear hK K
          have hS0 := HS
          (try simp only [Act.put, List.setIfInBounds_toArray, List.set_cons_zero, List.set_cons_succ])
          refine wpE_takeS (i := 11) (d := some 46) (v := .pointer (some ⟨zb, 2, none⟩)) rfl rfl (by kernel_rfl) (by kernel_rfl) (by kernel_rfl) (by kernel_rfl) (fun _ _ _ h => h) (by rfl) ?hy7 hS0 trivial ?go7
          case hy7 =>
            intro w9 hT9
            clear hT9; go_simp
          (try simp only [Act.put, List.setIfInBounds_toArray, List.set_cons_zero, List.set_cons_succ])
          refine wpE_all (rs := [12]) (by kernel_rfl) (by simp) ?_
          refine AllE.cons rfl (fun K hK => ?_) AllE.nil
          simp only [List.getElem_toArray, List.getElem_cons_succ, List.getElem_cons_zero]
          have z5 := HS.1
          go_simp
          refine hK.out _ _ ⟨fun h => absurd h (by simp), trivial⟩ (fun _ => ?_)
          clear hK K
          (try simp only [Act.put, List.setIfInBounds_toArray, List.set_cons_zero, List.set_cons_succ])
          refine wpE_done (by kernel_rfl) ?_ _
          go_wp2_with fail
          go_meet
          case rel => exact HREL.out
        · skip
          simp only [List.getElem_toArray, List.getElem_cons_succ, List.getElem_cons_zero]
          go_simp
          go_at_call 84
          refine (HTXa.out).mono ?_
          rintro z9 wG ⟨_, rfl, ⟨A7, n7, c7, A8, n8, c8, rfl, h7, h8, hr7, hr8⟩, hxG⟩
          have hcur : Ext w5 wG := (Ext.refl _).drew.trans hxG
          simp only []
          refine hK.out _ _ ⟨fun _ => (HQ.out _ hcur), trivial⟩ (fun _ => ?_)
          clear hK K
          have hS0 := (HQ.out _ hcur)
          (try simp only [Act.put, List.setIfInBounds_toArray, List.set_cons_zero, List.set_cons_succ])
          refine wpE_all (rs := [4, 7]) (by kernel_rfl) (by simp) ?_
          refine AllE.cons rfl (fun K hK => ?_) (AllE.cons rfl (fun K hK => ?_) AllE.nil)
          · skip
            simp only [List.getElem_toArray, List.getElem_cons_succ, List.getElem_cons_zero]
            go_simp
            refine hK.out _ _ ⟨fun _ => (HQ.out _ (hcur.alloc (.cells #[.int .i64 v] 3))), trivial⟩ (fun _ => ?_)
            clear hK K
            have hS0 := (HQ.out _ (hcur.alloc (.cells #[.int .i64 v] 3)))
            (try simp only [Act.put, List.setIfInBounds_toArray, List.set_cons_zero, List.set_cons_succ])
            refine wpE_all (rs := [7]) (by kernel_rfl) (by simp) ?_
            refine AllE.cons rfl (fun K hK => ?_) AllE.nil
            simp only [List.getElem_toArray, List.getElem_cons_succ, List.getElem_cons_zero]
            go_simp
            refine hK.out _ _ ⟨fun _ => (HQ.out _ ((hcur.alloc (.cells #[.int .i64 v] 3)).alloc (.cells #[.slice A7 n7 c7, .slice A8 n8 c8] 53))), trivial⟩ (fun _ => ?_)
            clear hK K
            have hS0 := (HQ.out _ ((hcur.alloc (.cells #[.int .i64 v] 3)).alloc (.cells #[.slice A7 n7 c7, .slice A8 n8 c8] 53)))
            (try simp only [Act.put, List.setIfInBounds_toArray, List.set_cons_zero, List.set_cons_succ])
            refine wpE_takeS (i := 8) (d := some 43) (v := .agg #[.int .i64 e, .bool false, .slice (some ⟨wG.heap.size, 0, none⟩) 1 1, .slice (some ⟨wG.heap.size + 1, 0, none⟩) 1 1]) rfl rfl (by kernel_rfl) (by kernel_rfl) (by kernel_rfl) (by kernel_rfl) (fun _ _ _ h => h) (by rfl) ?hy8 hS0 trivial ?go8
            case hy8 =>
              intro w9 hT9
              clear hT9; go_simp
            (try simp only [Act.put, List.setIfInBounds_toArray, List.set_cons_zero, List.set_cons_succ])
            refine wpE_all (rs := [9]) (by kernel_rfl) (by simp) ?_
            refine AllE.cons rfl (fun K hK => ?_) AllE.nil
            simp only [List.getElem_toArray, List.getElem_cons_succ, List.getElem_cons_zero]
            go_simp
            refine hK.out _ _ ⟨fun _ => (HQ.out _ (((hcur.alloc (.cells #[.int .i64 v] 3)).alloc (.cells #[.slice A7 n7 c7, .slice A8 n8 c8] 53)).alloc (.cells #[.int .i64 e, .bool false, .slice (some ⟨wG.heap.size, 0, none⟩) 1 1, .slice (some ⟨wG.heap.size + 1, 0, none⟩) 1 1] 46))), trivial⟩ (fun _ => ?_)
            clear hK K
            have hS0 := (HQ.out _ (((hcur.alloc (.cells #[.int .i64 v] 3)).alloc (.cells #[.slice A7 n7 c7, .slice A8 n8 c8] 53)).alloc (.cells #[.int .i64 e, .bool false, .slice (some ⟨wG.heap.size, 0, none⟩) 1 1, .slice (some ⟨wG.heap.size + 1, 0, none⟩) 1 1] 46)))
            (try simp only [Act.put, List.setIfInBounds_toArray, List.set_cons_zero, List.set_cons_succ])
            refine wpE_all (rs := [10]) (by kernel_rfl) (by simp) ?_
            refine AllE.cons rfl (fun K hK => ?_) AllE.nil
            simp only [List.getElem_toArray, List.getElem_cons_succ, List.getElem_cons_zero]
            obtain ⟨A9, c9, w9, hrun, hrel, HS, hf9⟩ := HAP2.out wG hxG A7 A8 n7 c7 n8 c8 h7 h8 hr7 hr8
            have HREL := Lib.hid hrel
            clear hrel
            refine step_append_tm (s := .tmp 36) (x := .tmp 44) hrun rfl rfl rfl rfl rfl ?_
            refine hK.out _ _ ⟨fun _ => HS, trivial⟩ (fun _ => ?_)
            clear hK K
            have hS0 := HS
            (try simp only [Act.put, List.setIfInBounds_toArray, List.set_cons_zero, List.set_cons_succ])
            refine wpE_takeS (i := 11) (d := some 46) (v := .pointer (some ⟨zb, 2, none⟩)) rfl rfl (by kernel_rfl) (by kernel_rfl) (by kernel_rfl) (by kernel_rfl) (fun _ _ _ h => h) (by rfl) ?hy9 hS0 trivial ?go9
            case hy9 =>
              intro w9 hT9
              clear hT9; go_simp
            (try simp only [Act.put, List.setIfInBounds_toArray, List.set_cons_zero, List.set_cons_succ])
            refine wpE_all (rs := [12]) (by kernel_rfl) (by simp) ?_
            refine AllE.cons rfl (fun K hK => ?_) AllE.nil
            simp only [List.getElem_toArray, List.getElem_cons_succ, List.getElem_cons_zero]
            have z5 := HS.1
            go_simp
            refine hK.out _ _ ⟨fun h => absurd h (by simp), trivial⟩ (fun _ => ?_)
            clear hK K
            (try simp only [Act.put, List.setIfInBounds_toArray, List.set_cons_zero, List.set_cons_succ])
            refine wpE_done (by kernel_rfl) ?_ _
            go_wp2_with fail
            go_meet
            case rel => exact HREL.out
          · skip
            simp only [List.getElem_toArray, List.getElem_cons_succ, List.getElem_cons_zero]
            go_simp
            refine hK.out _ _ ⟨fun _ => (HQ.out _ (hcur.alloc (.cells #[.slice A7 n7 c7, .slice A8 n8 c8] 53))), trivial⟩ (fun _ => ?_)
            clear hK K
            have hS0 := (HQ.out _ (hcur.alloc (.cells #[.slice A7 n7 c7, .slice A8 n8 c8] 53)))
            (try simp only [Act.put, List.setIfInBounds_toArray, List.set_cons_zero, List.set_cons_succ])
            refine wpE_all (rs := [4]) (by kernel_rfl) (by simp) ?_
            refine AllE.cons rfl (fun K hK => ?_) AllE.nil
            simp only [List.getElem_toArray, List.getElem_cons_succ, List.getElem_cons_zero]
            go_simp
            refine hK.out _ _ ⟨fun _ => (HQ.out _ ((hcur.alloc (.cells #[.slice A7 n7 c7, .slice A8 n8 c8] 53)).alloc (.cells #[.int .i64 v] 3))), trivial⟩ (fun _ => ?_)
            clear hK K
            have hS0 := (HQ.out _ ((hcur.alloc (.cells #[.slice A7 n7 c7, .slice A8 n8 c8] 53)).alloc (.cells #[.int .i64 v] 3)))
            (try simp only [Act.put, List.setIfInBounds_toArray, List.set_cons_zero, List.set_cons_succ])
            refine wpE_takeS (i := 8) (d := some 43) (v := .agg #[.int .i64 e, .bool false, .slice (some ⟨wG.heap.size + 1, 0, none⟩) 1 1, .slice (some ⟨wG.heap.size, 0, none⟩) 1 1]) rfl rfl (by kernel_rfl) (by kernel_rfl) (by kernel_rfl) (by kernel_rfl) (fun _ _ _ h => h) (by rfl) ?hy10 hS0 trivial ?go10
            case hy10 =>
              intro w9 hT9
              clear hT9; go_simp
            (try simp only [Act.put, List.setIfInBounds_toArray, List.set_cons_zero, List.set_cons_succ])
            refine wpE_all (rs := [9]) (by kernel_rfl) (by simp) ?_
            refine AllE.cons rfl (fun K hK => ?_) AllE.nil
            simp only [List.getElem_toArray, List.getElem_cons_succ, List.getElem_cons_zero]
            go_simp
            refine hK.out _ _ ⟨fun _ => (HQ.out _ (((hcur.alloc (.cells #[.slice A7 n7 c7, .slice A8 n8 c8] 53)).alloc (.cells #[.int .i64 v] 3)).alloc (.cells #[.int .i64 e, .bool false, .slice (some ⟨wG.heap.size + 1, 0, none⟩) 1 1, .slice (some ⟨wG.heap.size, 0, none⟩) 1 1] 46))), trivial⟩ (fun _ => ?_)
            clear hK K
            have hS0 := (HQ.out _ (((hcur.alloc (.cells #[.slice A7 n7 c7, .slice A8 n8 c8] 53)).alloc (.cells #[.int .i64 v] 3)).alloc (.cells #[.int .i64 e, .bool false, .slice (some ⟨wG.heap.size + 1, 0, none⟩) 1 1, .slice (some ⟨wG.heap.size, 0, none⟩) 1 1] 46)))
            (try simp only [Act.put, List.setIfInBounds_toArray, List.set_cons_zero, List.set_cons_succ])
            refine wpE_all (rs := [10]) (by kernel_rfl) (by simp) ?_
            refine AllE.cons rfl (fun K hK => ?_) AllE.nil
            simp only [List.getElem_toArray, List.getElem_cons_succ, List.getElem_cons_zero]
            obtain ⟨A9, c9, w9, hrun, hrel, HS, hf9⟩ := HAP3.out wG hxG A7 A8 n7 c7 n8 c8 h7 h8 hr7 hr8
            have HREL := Lib.hid hrel
            clear hrel
            refine step_append_tm (s := .tmp 36) (x := .tmp 44) hrun rfl rfl rfl rfl rfl ?_
            refine hK.out _ _ ⟨fun _ => HS, trivial⟩ (fun _ => ?_)
            clear hK K
            have hS0 := HS
            (try simp only [Act.put, List.setIfInBounds_toArray, List.set_cons_zero, List.set_cons_succ])
            refine wpE_takeS (i := 11) (d := some 46) (v := .pointer (some ⟨zb, 2, none⟩)) rfl rfl (by kernel_rfl) (by kernel_rfl) (by kernel_rfl) (by kernel_rfl) (fun _ _ _ h => h) (by rfl) ?hy11 hS0 trivial ?go11
            case hy11 =>
              intro w9 hT9
              clear hT9; go_simp
            (try simp only [Act.put, List.setIfInBounds_toArray, List.set_cons_zero, List.set_cons_succ])
            refine wpE_all (rs := [12]) (by kernel_rfl) (by simp) ?_
            refine AllE.cons rfl (fun K hK => ?_) AllE.nil
            simp only [List.getElem_toArray, List.getElem_cons_succ, List.getElem_cons_zero]
            have z5 := HS.1
            go_simp
            refine hK.out _ _ ⟨fun h => absurd h (by simp), trivial⟩ (fun _ => ?_)
            clear hK K
            (try simp only [Act.put, List.setIfInBounds_toArray, List.set_cons_zero, List.set_cons_succ])
            refine wpE_done (by kernel_rfl) ?_ _
            go_wp2_with fail
            go_meet
            case rel => exact HREL.out
      case rest =>
        obtain ⟨hk9, A9, c9, hb9, hc9, hr9, hx9⟩ := hcut
        have a0 := cell_of hb9 (i := 0) (u := .int .i64 b.ms) rfl
        have a1 := cell_of hb9 (i := 1) (u := .int .i64 b.ht) rfl
        have a2 := cell_of hb9 (i := 2) (u := .slice A9 (N + 1) c9) rfl
        have hR2 := (HC.out w2 HX2.out).2.2
        have HR9 := Lib.hid ((hk9 z2 (lt_of_block hR2)).trans hR2)
        have HX9 := Lib.hid hx9
        have hzl := lt_of_block hR2
        have hwl := (HX0.out.trans HX2.out).lt
        have HZL := Lib.hid (And.intro hzl hwl)
        have HRO := Lib.hid hr9
        clear hzl hwl hk9 hb9 hr9 hx9 hR2 HAP1 HAP2 HAP3 HTXa HTXb HTX HQ
        by_cases hc : 16384 < np
        · have HE0 := Lib.hid (show addE b e v t = 2 by rw [HE.out, if_pos hc])
          have HF := Lib.hid (show Calls Tryz.prog 85 #[.agg #[.int .i64 b.ms, .int .i64 b.ht, .slice A9 (N + 1) c9]] wc (fun z9 wf => Ext wc wf ∧ z9 = .returned (.tuple #[.agg #[.int .i64 0, .int .i64 0, .slice none 0 0], .int .i64 2])) from by
            refine (HFT.out _ HX9.out A9 c9 (Lay.row_mono HRO.out fun j hj _ => Nat.le_trans HZL.out.2 hj)).mono ?_
            rintro z9 wf ⟨hxf, (⟨hnp, rfl⟩ | ⟨hnp, rfl⟩)⟩
            · omega
            · exact ⟨hxf, rfl⟩)
          clear HFT
          go_wp2_with (first | (go_at_call 85; refine (HF.out).mono ?_; rintro z9 wf ⟨hxf, rfl⟩; have hRf := (hxf.block _ (lt_of_block HR9.out)).trans HR9.out; obtain ⟨k0, k1, k2, j0, j1, j2⟩ := BkR.of hRf; have HRF := Lib.hid hRf; clear hRf))
          have hs := st3 HRF.out (.int .i64 0) (.int .i64 0) (.slice none 0 0)
          have q0 := cell_of hs (i := 0) rfl
          have q1 := cell_of hs (i := 1) rfl
          have q2 := cell_of hs (i := 2) rfl
          refine bodyPost_ret (v := .tuple #[.agg #[.int .i64 0, .int .i64 0, .slice none 0 0], .int .i64 2]) (by simp [results, Tryz.results37, go_sem, q0, q1, q2]) rfl ?_
          refine ⟨ext3 (HX9.out.trans hxf) (by have := HZ.out; omega) _ _ _, ?_⟩
          exact .inl ⟨by rw [HE0.out]; decide, by rw [HE0.out]⟩
        · have HE0 := Lib.hid (show addE b e v t = 0 by rw [HE.out, if_neg hc])
          have HF := Lib.hid (show Calls Tryz.prog 85 #[.agg #[.int .i64 b.ms, .int .i64 b.ht, .slice A9 (N + 1) c9]] wc (fun z9 wf => Ext wc wf ∧ z9 = .returned (.tuple #[.agg #[.int .i64 b.ms, .int .i64 b.ht, .slice A9 (N + 1) c9], .int .i64 0])) from by
            refine (HFT.out _ HX9.out A9 c9 (Lay.row_mono HRO.out fun j hj _ => Nat.le_trans HZL.out.2 hj)).mono ?_
            rintro z9 wf ⟨hxf, (⟨hnp, rfl⟩ | ⟨hnp, rfl⟩)⟩
            · exact ⟨hxf, rfl⟩
            · omega)
          clear HFT
          go_wp2_with (first | (go_at_call 85; refine (HF.out).mono ?_; rintro z9 wf ⟨hxf, rfl⟩; have hRf := (hxf.block _ (lt_of_block HR9.out)).trans HR9.out; obtain ⟨k0, k1, k2, j0, j1, j2⟩ := BkR.of hRf; have HRF := Lib.hid hRf; clear hRf))
          have hs := st3 HRF.out (.int .i64 b.ms) (.int .i64 b.ht) (.slice A9 (N + 1) c9)
          have q0 := cell_of hs (i := 0) rfl
          have q1 := cell_of hs (i := 1) rfl
          have q2 := cell_of hs (i := 2) rfl
          refine bodyPost_ret (v := .tuple #[.agg #[.int .i64 b.ms, .int .i64 b.ht, .slice A9 (N + 1) c9], .int .i64 0]) (by simp [results, Tryz.results37, go_sem, q0, q1, q2]) rfl ?_
          refine ⟨ext3 (HX9.out.trans hxf) (by have := HZ.out; omega) _ _ _, ?_⟩
          refine .inr ⟨HE0.out, A9, N + 1, c9, rfl, hc9, Lay.row_mono (Lay.row_keep HRO.out (by have := hxf.lt; simp; omega) fun j hj hl => ?_) fun j hj _ => Nat.le_trans HZL.out.2 hj⟩
          have hz9 : j ≠ z2 := by have := HZL.out.1; omega
          exact (heap_setCell_other _ ⟨z2, 2, none⟩ j _ hz9).trans ((heap_setCell_other _ ⟨z2, 1, none⟩ j _ hz9).trans ((heap_setCell_other _ ⟨z2, 0, none⟩ j _ hz9).trans (hxf.block j hl)))
end Go.Proofs.YtdbnddmncbjobaaGreatDoor

/- book.Strike at an entry whose section is frozen: walked. -/
namespace Go.Proofs.YtdbnddmncbjobaaGreatDoor
open Go Go.RowKit

theorem idxI_some {β : Type} (p : β → Bool) : ∀ xs : List β, 0 ≤ idxI p xs → ∃ (i : Nat) (x : β), idxI p xs = (i : Int) ∧ xs[i]? = some x ∧ p x = true := by
  intro xs
  induction xs with
  | nil => intro h; simp [idxI] at h
  | cons a r ih =>
    intro h
    rw [idxI] at h ⊢
    by_cases ha : p a = true
    · rw [if_pos ha]; exact ⟨0, a, rfl, rfl, ha⟩
    · rw [if_neg ha] at h ⊢
      cases hq : idxI p r with
      | ofNat k =>
        obtain ⟨i, x, h1, h2, h3⟩ := ih (by rw [hq]; exact Int.natCast_nonneg k)
        rw [hq] at h1
        have hk : k = i := by have h1' : (k : Int) = (i : Int) := h1; omega
        subst hk
        exact ⟨k + 1, x, by simp, by simpa using h2, h3⟩
      | negSucc k => rw [hq] at h; simp at h
theorem idxI_none {β : Type} (p : β → Bool) : ∀ xs : List β, ¬ 0 ≤ idxI p xs → ∀ x ∈ xs, p x = false := by
  intro xs h
  have := idxI_any p xs
  rw [decide_eq_false h] at this
  intro x hx
  have h2 := List.any_eq_false.1 this.symm x hx
  simpa using h2
set_option maxHeartbeats 4000000 in
set_option maxRecDepth 100000 in
theorem strike_any (P : Nat → Prop) (w : World) (b : Bk) (e : Int) (A : Option Addr) (N c : Nat) (hb : BkI b) (hr : kSe.row w P A N b.secs) (hf : ∀ x ∈ b.secs, x.ent = e → x.fz = true) :
    Calls Tryz.prog 51 #[.agg #[.int .i64 b.ms, .int .i64 b.ht, .slice A N c], .int .i64 e] w (OpPost w (if 0 ≤ idxI (fun x => x.ent == e) b.secs then 0 else 3) b.ms b.ht b.secs) := by
  have hN := Lay.row_len hr
  have hN6 : N ≤ 1000000 := by have := hb.s.n; omega
  obtain ⟨r, hri⟩ : ∃ r, idxI (fun x => x.ent == e) b.secs = r := ⟨_, rfl⟩
  have HFD := Lib.hid (fun X (hX : Ext w X) => (show Calls Tryz.prog 81 #[.agg #[.int .i64 b.ms, .int .i64 b.ht, .slice A N c], .int .i64 e] X (fun z w' => z = .returned (.int .i64 r) ∧ Ext X w') from by rw [← hri]; exact find_any P X b.ms b.ht e b.secs A N c (Lay.row_ext hr hX) hN6))
  have HCL := Lib.hid (fun X (hX : Ext w X) => cloned_any P X b A N c (Lay.row_ext hr hX) hb.s)
  have HSM := Lib.hid (fun h : 0 ≤ r => by rw [← hri] at h; exact idxI_some (fun x : Se => x.ent == e) b.secs h)
  rw [hri]
  have HRI := Lib.hid hri
  have HF := Lib.hid hf
  have HN := Lib.hid hN
  clear hb hr hf hN hri
  go_enter Tryz.func51, Tryz.ntmps51
  go_upto_region 1 with (fail)
  obtain ⟨W0, hW0⟩ : ∃ W0, (w.alloc (.cells #[.int .i64 b.ms, .int .i64 b.ht, .slice A N c] 27)).alloc (.cells #[.int .i64 0, .int .i64 0, .slice none 0 0] 27) = W0 := ⟨_, rfl⟩
  obtain ⟨z, hz⟩ : ∃ z, w.heap.size = z := ⟨_, rfl⟩
  have hx0 : Ext w W0 := by rw [← hW0]; exact ((Ext.refl w).alloc _).alloc _
  have hB0 : W0.heap[z]? = some (.cells #[.int .i64 b.ms, .int .i64 b.ht, .slice A N c] 27 (0, 0)) := by rw [← hW0, ← hz, heap_alloc_old _ _ _ (by simp)]; exact heap_alloc_at _ _ _ _ rfl
  have hB1 : W0.heap[z + 1]? = some (.cells #[.int .i64 0, .int .i64 0, .slice none 0 0] 27 (0, 0)) := by rw [← hW0, ← hz]; exact heap_alloc_at _ _ _ _ (by simp)
  rw [hW0, hz]
  have HZ := Lib.hid hz
  have HX0 := Lib.hid hx0
  have HC := Lib.hid (fun X (hX : Ext W0 X) => (show X.heap[z]? = some (.cells #[.int .i64 b.ms, .int .i64 b.ht, .slice A N c] 27 (0, 0)) ∧ X.heap[z + 1]? = some (.cells #[.int .i64 0, .int .i64 0, .slice none 0 0] 27 (0, 0)) from
    ⟨(hX.block _ (lt_of_block hB0)).trans hB0, (hX.block _ (lt_of_block hB1)).trans hB1⟩))
  have a0 := cell_of hB0 (i := 0) (u := .int .i64 b.ms) rfl
  have a1 := cell_of hB0 (i := 1) (u := .int .i64 b.ht) rfl
  have a2 := cell_of hB0 (i := 2) (u := .slice A N c) rfl
  clear hW0 hz hx0 hB0 hB1
  go_upto_if 12 with (first | (go_at_call 81; refine (HFD.out _ HX0.out).mono ?_; rintro z9 w1 ⟨rfl, hx1⟩))
  have HX1 := Lib.hid hx1
  obtain ⟨k0, k1, k2, j0, j1, j2⟩ := BkR.of (HC.out w1 hx1).2
  have hc0 := (HC.out w1 hx1).1
  have a0 := cell_of hc0 (i := 0) (u := .int .i64 b.ms) rfl
  have a1 := cell_of hc0 (i := 1) (u := .int .i64 b.ht) rfl
  have a2 := cell_of hc0 (i := 2) (u := .slice A N c) rfl
  clear HFD hx1 hc0
  by_cases hge : 0 ≤ r
  · obtain ⟨i, x, hri, hxi, hxe⟩ := HSM.out hge
    obtain rfl : r = (i : Int) := HRI.out.symm.trans hri
    have hfz := HF.out x (List.mem_of_getElem? hxi) (by simpa using hxe)
    have hni : ¬ (i : Int) < 0 := by omega
    have HXI := Lib.hid hxi
    have hiN : i < N := by have := (List.getElem?_eq_some_iff.1 hxi).1; have := HN.out; omega
    have hI : (i : Int) < (N : Int) := by omega
    clear hri hxi hxe hge k0 k1 k2 j0 j1 j2
    rw [if_pos (by omega)]
    go_upto_region 5 with (first | (go_at_call 76; refine (HCL.out _ (HX0.out.trans HX1.out)).mono ?_; rintro z9 w3 ⟨g, rfl, hbk, hx3⟩))
    obtain ⟨w5, hw5⟩ : ∃ w5, w3.alloc (.cells #[.int .i64 b.ms, .int .i64 b.ht, .slice (some ⟨g, 0, none⟩) N N] 27) = w5 := ⟨_, rfl⟩
    obtain ⟨zb, hzb⟩ : ∃ z, w3.heap.size = z := ⟨_, rfl⟩
    have hx5 : Ext w3 w5 := by rw [← hw5]; exact (Ext.refl w3).alloc _
    have hB5 : w5.heap[zb]? = some (.cells #[.int .i64 b.ms, .int .i64 b.ht, .slice (some ⟨g, 0, none⟩) N N] 27 (0, 0)) := by rw [← hw5, ← hzb]; exact heap_alloc_at _ _ _ _ rfl
    rw [hw5, hzb]
    have hrow5 := Lay.row_ext hbk.row hx5
    obtain ⟨bg, og, cg, hbg, _, _, hrep, hcl⟩ := Lay.row_at hrow5 HXI.out
    obtain ⟨A1, n1, c1, A2, n2, c2, rfl, _, _, _, _⟩ := kSe_rep.1 hrep
    simp only [Option.some.injEq, Addr.mk.injEq] at hbg
    obtain ⟨rfl, rfl, _⟩ := hbg
    have y1 := hcl 1 _ rfl
    rw [kSe_sz, Nat.zero_add, hfz] at y1
    have a0 := cell_of hB5 (i := 0) (u := .int .i64 b.ms) rfl
    have a1 := cell_of hB5 (i := 1) (u := .int .i64 b.ht) rfl
    have a2 := cell_of hB5 (i := 2) (u := .slice (some ⟨g, 0, none⟩) N N) rfl
    have HX5 := Lib.hid (HX1.out.trans (hx3.trans hx5))
    have hR := (HC.out w5 HX5.out).2
    obtain ⟨k0, k1, k2, j0, j1, j2⟩ := BkR.of hR
    have HRW := Lib.hid hrow5
    have hzw : z + 1 < w1.heap.size := lt_of_block (HC.out w1 HX1.out).2
    have HLN := Lib.hid HN.out
    clear hw5 hzb hB5 hrow5 hrep hcl hbk hx3 hx5 hfz hR
    go_wp2_with fail
    have hs := st3 (HC.out w5 HX5.out).2 (.int .i64 b.ms) (.int .i64 b.ht) (.slice (some ⟨g, 0, none⟩) N N)
    have q0 := cell_of hs (i := 0) rfl
    have q1 := cell_of hs (i := 1) rfl
    have q2 := cell_of hs (i := 2) rfl
    refine bodyPost_ret (v := .tuple #[.agg #[.int .i64 b.ms, .int .i64 b.ht, .slice (some ⟨g, 0, none⟩) N N], .int .i64 0]) (by simp [results, Tryz.results51, go_sem, q0, q1, q2]) rfl ?_
    have h9 := HRW.out
    rw [← HLN.out] at h9
    have hxw := HX0.out.lt
    have hzz := HZ.out
    have hw1 := HX1.out.lt
    refine ⟨ext3 (HX0.out.trans HX5.out) (by omega) _ _ _, .inr ⟨rfl, some ⟨g, 0, none⟩, N, N, rfl, Nat.le_refl _, Lay.row_mono (Lay.row_keep h9 (by simp) fun j hj hl => ?_) fun j hj _ => by omega⟩⟩
    have hz9 : j ≠ z + 1 := by omega
    exact (heap_setCell_other _ ⟨z + 1, 2, none⟩ j _ hz9).trans ((heap_setCell_other _ ⟨z + 1, 1, none⟩ j _ hz9).trans (heap_setCell_other _ ⟨z + 1, 0, none⟩ j _ hz9))
  · have hl : r < 0 := by omega
    rw [if_neg hge]
    go_wp2_with fail
    have hs := st3 (HC.out w1 HX1.out).2 (.int .i64 0) (.int .i64 0) (.slice none 0 0)
    have q0 := cell_of hs (i := 0) rfl
    have q1 := cell_of hs (i := 1) rfl
    have q2 := cell_of hs (i := 2) rfl
    refine bodyPost_ret (v := .tuple #[.agg #[.int .i64 0, .int .i64 0, .slice none 0 0], .int .i64 3]) (by simp [results, Tryz.results51, go_sem, q0, q1, q2]) rfl ?_
    exact ⟨ext3 (HX0.out.trans HX1.out) (by have := HZ.out; omega) _ _ _, .inl ⟨by decide, rfl⟩⟩
end Go.Proofs.YtdbnddmncbjobaaGreatDoor

/- What book.Correct does in memory: a version and a text are appended to a section of a cloned book. -/
namespace Go.Proofs.YtdbnddmncbjobaaGreatDoor
open Go Go.RowKit

theorem info3b : (Tryz.prog.info? 3).map (fun i => (i.zero, i.size, i.bytes)) = some (some (Value.int .i64 0), 1, 8) := by kernel_rfl
theorem cor_mem {w5 : World} {base g i M : Nat} {ls : List Se} {x : Se} {ds : List (Cs kSe.sz)} {lof : Nat → Nat} (hbg : base ≤ g) (hg : w5.heap[g]? = some (.cells (gcells ccf ds).toArray 46 (0, 0))) (hdl : ds.length = ls.length) (hlo0 : g < lof 0 ∧ (∀ j, j < ls.length → lof j ≤ lof (j + 1)) ∧ lof ls.length ≤ M) (hM : M ≤ w5.heap.size)
    (hall : ∀ (j : Nat) (d : Cs kSe.sz) (x : Se), ds[j]? = some d → ls[j]? = some x → SeO w5 (lof j) (lof (j + 1)) x (ccf d)) (hx : ls[i]? = some x) (hnv : x.vers.length < 1000000) (hnt : x.texts.length < 1000000) (v : Int) :
    ∃ (lo hi : Nat) (A1 : Option Addr) (n1 c1 : Nat) (A2 : Option Addr) (n2 c2 : Nat) (A1' : Option Addr) (c1' : Nat) (w6 : World),
      (g < lo ∧ lo ≤ hi ∧ hi ≤ M ∧ base ≤ g ∧ g < w5.heap.size) ∧ n1 = x.vers.length ∧
      (∀ X : World, X.heap[g]? = w5.heap[g]? → X.cell? ⟨g, i * 4 + 1, none⟩ = some (.bool x.fz) ∧ X.cell? ⟨g, i * 4 + 2, none⟩ = some (.slice A1 n1 c1) ∧ X.cell? ⟨g, i * 4 + 3, none⟩ = some (.slice A2 n2 c2) ∧ X.frozen? ⟨g, i * 4 + 2, none⟩ = false ∧ X.frozen? ⟨g, i * 4 + 3, none⟩ = false) ∧
      (Builtin.append_ #[22, 22] 22 #[.slice A1 n1 c1, .slice (some ⟨w5.heap.size, 0, none⟩) 1 1]).run Tryz.prog ((w5.alloc (.cells #[.int .i64 v] 3)).drew) = .ok (.slice A1' (n1 + 1) c1') w6 ∧
      (∀ B, B ≤ lo → Below B w5 w6) ∧ (∀ j, j < w5.heap.size → ¬ (lo ≤ j ∧ j < hi) → w6.heap[j]? = w5.heap[j]?) ∧ w5.heap.size ≤ w6.heap.size ∧
      ∀ (t : Tx) (wG : World) (A7 A8 : Option Addr) (n7 c7 n8 c8 : Nat), Ext w6 wG → n7 ≤ c7 → n8 ≤ c8 → kWs.row wG (fun j => w6.heap.size ≤ j) A7 n7 t.paras → kWs.row wG (fun j => w6.heap.size ≤ j) A8 n8 t.notes →
        ∃ A2' c2' w8, (Builtin.append_ #[44, 44] 44 #[.slice A2 n2 c2, .slice (some ⟨wG.heap.size, 0, none⟩) 1 1]).run Tryz.prog (wG.alloc (.cells #[.slice A7 n7 c7, .slice A8 n8 c8] 53)) = .ok (.slice A2' (n2 + 1) c2') w8 ∧
          (∀ B, B ≤ lo → Below B w5 w8) ∧ (∀ j, j < w5.heap.size → ¬ (lo ≤ j ∧ j < hi) → w8.heap[j]? = w5.heap[j]?) ∧ w5.heap.size ≤ w8.heap.size ∧
          kSe.row ((w8.setCell ⟨g, i * 4 + 2, none⟩ (.slice A1' (n1 + 1) c1')).setCell ⟨g, i * 4 + 3, none⟩ (.slice A2' (n2 + 1) c2')) (fun j => base ≤ j) (some ⟨g, 0, none⟩) ls.length (ls.set i (corS x v t)) := by
  obtain ⟨l1, l2, l3⟩ := hlo0
  have hil := (List.getElem?_eq_some_iff.1 hx).1
  have hgl := lt_of_block hg
  obtain ⟨d, hdi⟩ : ∃ d, ds[i]? = some d := ⟨_, List.getElem?_eq_getElem (by omega)⟩
  obtain ⟨m, A1, n1, c1, A2, n2, c2, hdc, hm1, hm2, h4, h5, h6, h7, ho2, ho2m, ho1, ho1h⟩ := hall i d x hdi hx
  have hlo : g < lof i := Nat.lt_of_lt_of_le l1 (lo_mono l2 i 0 (by omega) (by omega))
  have hhi : lof (i + 1) ≤ M := Nat.le_trans (lo_mono l2 ls.length (i + 1) (by omega) (Nat.le_refl _)) l3
  have hlt1 := Lay.own_lt ho1
  have hlt2 := Lay.own_lt ho2
  -- the first append
  have ho1d : kInt.own 3 w5.drew m (fun _ => False) (.slice A1 n1 c1) x.vers := Lay.own_ext ho1 (Ext.refl _).drew
  obtain ⟨A1', c1', w6, r1, r2, r3, r4, r5, r6⟩ := own_app1 (k := kInt) (Pr := Tryz.prog) (t := 22) Tryz.underlying22 info3b rfl (by decide) (by omega) ho1d (show m ≤ w5.heap.size by omega) (cs := #[.int .i64 v]) (T := 3) (x := v) rfl 1 (by omega)
  rw [← h6] at r1 r2 r6
  have hs5 : w5.drew.heap.size = w5.heap.size := rfl
  rw [hs5] at r1 r4 r5 r6
  have r1' : (Builtin.append_ #[22, 22] 22 #[.slice A1 n1 c1, .slice (some ⟨w5.heap.size, 0, none⟩) 1 1]).run Tryz.prog ((w5.alloc (.cells #[.int .i64 v] 3)).drew) = .ok (.slice A1' (n1 + 1) c1') w6 := r1
  have hb6 : ∀ B, B ≤ lof i → Below B w5 w6 := fun B hB => Below.trans (Below.drew (Below.refl B w5)) (r3 B (by omega))
  have hk6 : ∀ j, j < w5.heap.size → ¬ (lof i ≤ j ∧ j < lof (i + 1)) → w6.heap[j]? = w5.heap[j]? := fun j hj hn => r4 j hj fun e => by
    have := hlt1 j e
    have := ho1h j e
    omega
  have hk6m : ∀ j, j < m → j < w5.heap.size → w6.heap[j]? = w5.heap[j]? := fun j hj hl => r4 j hl fun e => by have := hlt1 j e; omega
  refine ⟨lof i, lof (i + 1), A1, n1, c1, A2, n2, c2, A1', c1', w6, ⟨hlo, by omega, hhi, hbg, hgl⟩, h6, fun X hX => ?_, r1', hb6, hk6, r5, ?_⟩
  · have hcl : ∀ k u, (ccf d)[k]? = some u → X.cell? ⟨g, i * 4 + k, none⟩ = some u := fun k u hu => by
      have hk : k < kSe.sz := by rw [← ccf_len d]; exact (List.getElem?_eq_some_iff.1 hu).1
      have h9 := gcells_at (cf := ccf) ccf_len ds i d hdi k hk
      rw [hu] at h9
      have h9' : (gcells ccf ds)[i * 4 + k]? = some u := h9
      exact cell_of (hX.trans hg) (by simpa using h9')
    rw [hdc] at hcl
    exact ⟨hcl 1 _ rfl, hcl 2 _ rfl, hcl 3 _ rfl, frozen_of (hX.trans hg) _, frozen_of (hX.trans hg) _⟩
  · intro t wG A7 A8 n7 c7 n8 c8 hG h77 h88 hr7 hr8
    have ho26 : kTx.own 53 w6 (lof i) (fun q => lof i ≤ q ∧ q < m) (.slice A2 n2 c2) x.texts := Lay.own_keep ho2 r5 fun j hj hl => hk6m j (by
      rcases hj with hj | hj
      · exact hj.2
      · exact ho2m j hj) hl
    have ho2G : kTx.own 53 wG (lof i) (fun q => (lof i ≤ q ∧ q < m) ∨ w6.heap.size ≤ q) (.slice A2 n2 c2) x.texts := Lay.own_mono (Lay.own_ext ho26 hG) fun j hj _ => .inl hj
    have hsub : ∀ j, w6.heap.size ≤ j → j < wG.heap.size → ((lof i ≤ j ∧ j < m) ∨ w6.heap.size ≤ j) ∧ (Value.slice A2 n2 c2).ownBlock ≠ some j := fun j hj _ => ⟨.inr hj, fun e => by have := hlt2 j e; omega⟩
    obtain ⟨A2', c2', w8, q1, q2, q3, q4, q5, q6⟩ := own_app1 (k := kTx) (Pr := Tryz.prog) (t := 44) Tryz.underlying44 info53 rfl (by decide) (by omega) ho2G (by have := hG.lt; omega) (cs := #[.slice A7 n7 c7, .slice A8 n8 c8]) (T := 53) (x := t)
      (kTx_rep.2 ⟨A7, n7, c7, A8, n8, c8, rfl, h77, h88, Lay.row_mono hr7 hsub, Lay.row_mono hr8 hsub⟩) 1 (by omega)
    rw [← h7] at q1 q2 q6
    have hGl := hG.lt
    have hk8 : ∀ j, j < w5.heap.size → ¬ (lof i ≤ j ∧ j < lof (i + 1)) → w8.heap[j]? = w5.heap[j]? := fun j hj hn => (q4 j (by omega) fun e => by have := hlt2 j e; have := ho2m j e; omega).trans ((hG.block j (by omega)).trans (hk6 j hj hn))
    have hb8 : ∀ B, B ≤ lof i → Below B w5 w8 := fun B hB => Below.trans (Below.trans (hb6 B hB) (Below.mono hG (by omega))) (q3 B hB)
    refine ⟨A2', c2', w8, q1, hb8, hk8, by omega, ?_⟩
    obtain ⟨w10, hw10⟩ : ∃ w10, (w8.setCell ⟨g, i * 4 + 2, none⟩ (.slice A1' (n1 + 1) c1')).setCell ⟨g, i * 4 + 3, none⟩ (.slice A2' (n2 + 1) c2') = w10 := ⟨_, rfl⟩
    have hkg : ∀ q, q ≠ g → w10.heap[q]? = w8.heap[q]? := fun q hq => by
      rw [← hw10, heap_setCell_other _ ⟨g, i * 4 + 3, none⟩ q _ hq, heap_setCell_other _ ⟨g, i * 4 + 2, none⟩ q _ hq]
    have hs10 : w10.heap.size = w8.heap.size := by rw [← hw10]; simp
    have hg8 : w8.heap[g]? = some (.cells (gcells ccf ds).toArray 46 (0, 0)) := (hk8 g hgl (by omega)).trans hg
    -- the versions in w10
    have hlt1' := Lay.own_lt r2
    have hlt2' := Lay.own_lt q2
    have ho1v : kInt.own 3 w10 m (fun _ => False) (.slice A1' (n1 + 1) c1') (x.vers ++ [v]) := by
      refine Lay.own_keep r2 (by omega) fun j hj hl => ?_
      rcases hj with hj | hj
      · exact hj.elim
      · have h1 := hlt1' j hj
        refine (hkg j (by omega)).trans ((q4 j (by omega) fun e => ?_).trans (hG.block j hl))
        have := ho2m j e
        omega
    have ho2t : kTx.own 53 w10 (lof i) (fun q => (lof i ≤ q ∧ q < m) ∨ w6.heap.size ≤ q) (.slice A2' (n2 + 1) c2') (x.texts ++ [t]) := by
      refine Lay.own_keep q2 (by omega) fun j hj hl => hkg j ?_
      rcases hj with (hj | hj) | hj
      · omega
      · omega
      · have := hlt2' j hj; omega
    obtain ⟨B1, d1, e1, f1, g1⟩ := Lay.own_row ho1v
    obtain ⟨B2, d2, e2, f2, g2⟩ := Lay.own_row ho2t
    obtain ⟨e11, e12, e13⟩ := Value.slice.inj e1
    obtain ⟨e21, e22, e23⟩ := Value.slice.inj e2
    rw [← e11, ← e12] at g1
    rw [← e21, ← e22] at g2
    have hltv := Lay.own_lt ho1v
    have hltt := Lay.own_lt ho2t
    have hrep : kSe.rep w10 (fun q => base ≤ q) (corS x v t) [.int .i64 x.ent, .bool x.fz, .slice A1' (n1 + 1) c1', .slice A2' (n2 + 1) c2'] :=
      kSe_rep.2 ⟨A1', n1 + 1, c1', A2', n2 + 1, c2', rfl, by rw [e12, e13]; exact f1, by rw [e22, e23]; exact f2, Lay.row_mono g1 fun q hq _ => by
        rcases hq with hq | hq
        · exact hq.elim
        · have := hltv q hq; omega, Lay.row_mono g2 fun q hq _ => by
        rcases hq with (hq | hq) | hq
        · omega
        · omega
        · have := hltt q hq; omega⟩
    obtain ⟨d', hd'⟩ : ∃ d' : Cs kSe.sz, ccf d' = [.int .i64 x.ent, .bool x.fz, .slice A1' (n1 + 1) c1', .slice A2' (n2 + 1) c2'] := mkCs _ (kSe.len hrep) (kSe.one hrep)
    have hg10 : w10.heap[g]? = some (.cells (gcells ccf (ds.set i d')).toArray 46 (0, 0)) := by
      rw [← hw10, heap_setCell_same _ g (i * 4 + 3) _ 46 _ (heap_setCell_same _ g (i * 4 + 2) _ 46 _ hg8), ← put2_se ds i d hdi _ _ _ _ _ _ hdc d' hd']
      simp
    rw [hw10]
    have hrow : ∀ (j : Nat) (dj : Cs kSe.sz) (y : Se), (ds.set i d')[j]? = some dj → (ls.set i (corS x v t))[j]? = some y → kSe.rep w10 (fun q => base ≤ q) y (ccf dj) := fun j dj y hdj hyj => by
      rw [List.getElem?_set] at hdj hyj
      by_cases hij : i = j
      · subst hij
        rw [if_pos rfl, if_pos (by omega)] at hdj
        rw [if_pos rfl, if_pos (by omega)] at hyj
        injection hdj with hdj
        injection hyj with hyj
        subst hdj hyj
        rw [hd']; exact hrep
      · rw [if_neg hij] at hdj hyj
        have hjl := (List.getElem?_eq_some_iff.1 hyj).1
        have hlj : g < lof j := Nat.lt_of_lt_of_le l1 (lo_mono l2 j 0 (by omega) (by omega))
        have hhj : lof (j + 1) ≤ M := Nat.le_trans (lo_mono l2 ls.length (j + 1) (by omega) (Nat.le_refl _)) l3
        have h9 := (hall j dj y hdj hyj).keep (W' := w10) (by omega) fun q hq1 hq2 hl => (hkg q (by omega)).trans (hk8 q hl (by
          rcases Nat.lt_or_gt_of_ne hij with h | h
          · have := lo_mono l2 j (i + 1) (by omega) (by omega); omega
          · have := lo_mono l2 i (j + 1) (by omega) (by omega); omega))
        exact kSe.mono h9.rep fun q hq _ => by omega
    have hl := gcells_len (cf := ccf) ccf_len (ds.set i d')
    refine ⟨ds.set i d', by rw [List.length_set], by rw [List.length_set, List.length_set]; exact hdl, ⟨by rw [List.length_set]; omega, fun _ => ⟨g, 0, rfl, lt_of_block hg10, fun k dk hdk j u hu => ?_⟩⟩, fun a ha => ?_, hrow⟩
    · have hj : j < kSe.sz := by rw [← ccf_len dk]; exact (List.getElem?_eq_some_iff.1 hu).1
      have := gcells_at (cf := ccf) ccf_len (ds.set i d') k dk hdk j hj
      rw [hu] at this
      rw [Nat.zero_add]
      exact cell_of hg10 (by simpa using this)
    · injection ha with ha; subst ha; exact ⟨hbg, lt_of_block hg10⟩
end Go.Proofs.YtdbnddmncbjobaaGreatDoor

/- book.Correct at a section that is there and frozen: walked (printed by gencor.py). -/
namespace Go.Proofs.YtdbnddmncbjobaaGreatDoor
open Go Go.RowKit

/-- The error of Correct at a good text and a section that is there. -/
def corE (b : Bk) (i : Nat) (x : Se) (v : Int) (t : Tx) : Int :=
  if (decide (0 ≤ v) && decide (v ≤ 2147483647)) = false then 5
  else if decide (v ∈ x.vers) = true then 4
  else if 100 < x.vers.length + 1 ∨ 16384 < (pagesB (corP b i x v t)).length then 2 else 0
/-- What holds behind the corrected book's making. -/
structure CoC (w w2 W : World) (zb g n i n1 : Nat) (ms ht : Int) (ls : List Se) : Prop where
  k : ∀ j, j < w2.heap.size → W.heap[j]? = w2.heap[j]?
  b : W.heap[zb]? = some (.cells #[.int .i64 ms, .int .i64 ht, .slice (some ⟨g, 0, none⟩) n n] 27 (0, 0))
  v : ∃ A c, W.cell? ⟨g, i * 4 + 2, none⟩ = some (.slice A (n1 + 1) c)
  r : kSe.row W (fun j => w2.heap.size ≤ j) (some ⟨g, 0, none⟩) n ls
  x : Ext w W
set_option maxHeartbeats 4000000 in
set_option maxRecDepth 100000 in
theorem correct_any (P Q : Nat → Prop) (w : World) (b : Bk) (e v : Int) (t : Tx) (i : Nat) (x : Se) (A A3 A4 : Option Addr) (N c n3 c3 n4 c4 : Nat) (hb : BkI b) (hh : 4 ≤ b.ht) (hb2 : BkI (corP b i x v t)) (hT : OkT t) (hix : idxI (fun x => x.ent == e) b.secs = (i : Int)) (hxi : b.secs[i]? = some x) (hfz : x.fz = true) (hnv : x.vers.length ≤ 1000) (hnt : x.texts.length ≤ 1000)
    (hr : kSe.row w P A N b.secs) (h3 : kWs.row w Q A3 n3 t.paras) (h4 : kWs.row w Q A4 n4 t.notes) (hL : EnvW w) :
    Calls Tryz.prog 38 #[.agg #[.int .i64 b.ms, .int .i64 b.ht, .slice A N c], .int .i64 e, .int .i64 v, .agg #[.slice A3 n3 c3, .slice A4 n4 c4]] w (OpPost w (corE b i x v t) b.ms b.ht (corP b i x v t).secs) := by
  have hN := Lay.row_len hr
  have hN6 : N ≤ 1000000 := by have := hb.s.n; omega
  have hiN : i < N := by have := (List.getElem?_eq_some_iff.1 hxi).1; omega
  obtain ⟨r2, hr2⟩ : ∃ r2, (decide (0 ≤ v) && decide (v ≤ 2147483647)) = r2 := ⟨_, rfl⟩
  obtain ⟨r3, hr3⟩ : ∃ r3, decide (v ∈ x.vers) = r3 := ⟨_, rfl⟩
  have HFD := Lib.hid (fun X (hX : Ext w X) => (show Calls Tryz.prog 81 #[.agg #[.int .i64 b.ms, .int .i64 b.ht, .slice A N c], .int .i64 e] X (fun z w' => z = .returned (.int .i64 (i : Int)) ∧ Ext X w') from by rw [← hix]; exact find_any P X b.ms b.ht e b.secs A N c (Lay.row_ext hr hX) hN6))
  have HW2 := Lib.hid (fun X => (show Calls Tryz.prog 82 #[.int .i64 v, .int .i64 0, .int .i64 2147483647] X (fun z w' => z = .returned (.bool r2) ∧ X = w') from by rw [← hr2]; exact within_any X v 0 2147483647))
  have HWR := Lib.hid (fun X (hX : Ext w X) => wrong_ok Q X b.ms b.ht A N c t A3 A4 n3 n4 c3 c4 (Lay.row_ext h3 hX) (Lay.row_ext h4 hX) hT hb.m0 hb.m1 hh hb.h.2 (hL.ext hX))
  have HCL := Lib.hid (fun X (hX : Ext w X) => cloned_own P X b A N c (Lay.row_ext hr hX) hb.s)
  have HTX := Lib.hid (fun X (hX : Ext w X) => text_any Q X t A3 A4 n3 n4 c3 c4 (Lay.row_ext h3 hX) (Lay.row_ext h4 hX) (by have := Lay.row_len h3; have := hT.np; omega) (by have := Lay.row_len h4; have := hT.nn; omega) hT.small.len)
  have HFT := Lib.hid (fun X (hX : Ext w X) (R : Nat → Prop) (A9 : Option Addr) (c9 : Nat) h9 => bfits_any R X (corP b i x v t) A9 N c9 hb2 h9 (hL.ext hX))
  obtain ⟨bA, oA, cA, rfl, hbA, _, hrepA, hclA⟩ := Lay.row_at hr hxi
  obtain ⟨Av, nv, cv, _, _, _, rfl, _, _, hrv, _⟩ := kSe_rep.1 hrepA
  have y2 := hclA 2 _ rfl
  rw [kSe_sz] at y2
  have HCO := Lib.hid (fun X (hX : Ext w X) => (show Calls Tryz.prog 86 #[.slice Av nv cv, .int .i64 v] X (fun z w' => z = .returned (.bool r3) ∧ X = w') from by rw [← hr3]; exact contains_int P X Av nv cv x.vers v (Lay.row_ext hrv hX) (by have := Lay.row_len hrv; omega)))
  have HY2 := Lib.hid (fun X (hX : Ext w X) => (show X.cell? ⟨bA, oA + i * 4 + 2, none⟩ = some (.slice Av nv cv) from (hX.cells.1 bA _ hbA).trans y2))
  obtain ⟨np, hnp⟩ : ∃ np, (pagesB (corP b i x v t)).length = np := ⟨_, rfl⟩
  have HER := Lib.hid (show corE b i x v t = if r2 = false then 5 else if r3 = true then 4 else if 100 < x.vers.length + 1 ∨ 16384 < np then 2 else 0 by unfold corE; rw [hr2, hr3, hnp])
  rw [hnp] at HFT
  have HN := Lib.hid hN
  have HXI := Lib.hid hxi
  have HFZ := Lib.hid (And.intro hfz (And.intro hnv hnt))
  have HTN := Lib.hid hb2.s
  clear hb hb2 hh hT hr h3 h4 hL hr2 hr3 hN hnp hix hxi hfz hnv hnt hclA hrepA hrv y2 hbA
  have hni : ¬ (i : Int) < 0 := by omega
  have hI : (i : Int) < (N : Int) := by omega
  go_enter Tryz.func38, Tryz.ntmps38
  go_upto_region 1 with (fail)
  obtain ⟨W0, hW0⟩ : ∃ W0, ((w.alloc (.cells #[.int .i64 b.ms, .int .i64 b.ht, .slice (some ⟨bA, oA, none⟩) N c] 27)).alloc (.cells #[.slice A3 n3 c3, .slice A4 n4 c4] 53)).alloc (.cells #[.int .i64 0, .int .i64 0, .slice none 0 0] 27) = W0 := ⟨_, rfl⟩
  obtain ⟨z, hz⟩ : ∃ z, w.heap.size = z := ⟨_, rfl⟩
  have hx0 : Ext w W0 := by rw [← hW0]; exact (((Ext.refl w).alloc _).alloc _).alloc _
  have hB0 : W0.heap[z]? = some (.cells #[.int .i64 b.ms, .int .i64 b.ht, .slice (some ⟨bA, oA, none⟩) N c] 27 (0, 0)) := by rw [← hW0, ← hz, heap_alloc_old _ _ _ (by simp; omega), heap_alloc_old _ _ _ (by simp)]; exact heap_alloc_at _ _ _ _ rfl
  have hB1 : W0.heap[z + 1]? = some (.cells #[.slice A3 n3 c3, .slice A4 n4 c4] 53 (0, 0)) := by rw [← hW0, ← hz, heap_alloc_old _ _ _ (by simp)]; exact heap_alloc_at _ _ _ _ (by simp)
  have hB2 : W0.heap[z + 1 + 1]? = some (.cells #[.int .i64 0, .int .i64 0, .slice none 0 0] 27 (0, 0)) := by rw [← hW0, ← hz]; exact heap_alloc_at _ _ _ _ (by simp)
  obtain ⟨z2, hz2⟩ : ∃ z2, z + 1 + 1 = z2 := ⟨_, rfl⟩
  obtain ⟨z1, hz1⟩ : ∃ z1, z + 1 = z1 := ⟨_, rfl⟩
  rw [hz2] at hB2
  rw [hz1] at hB1
  rw [hW0, hz, hz2, hz1]
  have HZ := Lib.hid (show w.heap.size = z ∧ z1 = z + 1 ∧ z2 = z + 2 by omega)
  have HX0 := Lib.hid hx0
  have HC := Lib.hid (fun X (hX : Ext W0 X) => (show X.heap[z]? = some (.cells #[.int .i64 b.ms, .int .i64 b.ht, .slice (some ⟨bA, oA, none⟩) N c] 27 (0, 0)) ∧ X.heap[z1]? = some (.cells #[.slice A3 n3 c3, .slice A4 n4 c4] 53 (0, 0)) ∧ X.heap[z2]? = some (.cells #[.int .i64 0, .int .i64 0, .slice none 0 0] 27 (0, 0)) from
    ⟨(hX.block _ (lt_of_block hB0)).trans hB0, (hX.block _ (lt_of_block hB1)).trans hB1, (hX.block _ (lt_of_block hB2)).trans hB2⟩))
  have a0 := cell_of hB0 (i := 0) (u := .int .i64 b.ms) rfl
  have a1 := cell_of hB0 (i := 1) (u := .int .i64 b.ht) rfl
  have a2 := cell_of hB0 (i := 2) (u := .slice (some ⟨bA, oA, none⟩) N c) rfl
  clear hW0 hz hx0 hB0 hB1 hB2 hz1 hz2
  go_upto_if 18 with (first | (go_at_call 81; refine (HFD.out _ HX0.out).mono ?_; rintro z9 w1 ⟨rfl, hx1⟩))
  have HX1 := Lib.hid hx1
  obtain ⟨k0, k1, k2, j0, j1, j2⟩ := BkR.of (HC.out w1 hx1).2.2
  clear a0 a1 a2 HFD hx1
  have HBAD := Lib.hid (fun X (hX : Ext W0 X) => (show Ext w (((X.setCell ⟨z2, 0, none⟩ (.int .i64 0)).setCell ⟨z2, 1, none⟩ (.int .i64 0)).setCell ⟨z2, 2, none⟩ (.slice none 0 0)) from ext3 (HX0.out.trans hX) (by have := HZ.out; omega) _ _ _))
  cases r2 with
  | false =>
    have HE := Lib.hid (show corE b i x v t = 5 by rw [HER.out, if_pos rfl])
    go_wp2_with (first | (go_at_call 82; refine (HW2.out _).mono ?_; rintro z9 w2 ⟨rfl, rfl⟩))
    have hs := st3 (HC.out _ HX1.out).2.2 (.int .i64 0) (.int .i64 0) (.slice none 0 0)
    have q0 := cell_of hs (i := 0) rfl
    have q1 := cell_of hs (i := 1) rfl
    have q2 := cell_of hs (i := 2) rfl
    refine bodyPost_ret (v := .tuple #[.agg #[.int .i64 0, .int .i64 0, .slice none 0 0], .int .i64 5]) (by simp [results, Tryz.results38, go_sem, q0, q1, q2]) rfl ?_
    exact ⟨HBAD.out _ HX1.out, .inl ⟨by rw [HE.out]; decide, by rw [HE.out]⟩⟩
  | true =>
  go_upto_if 22 with (first | (go_at_call 82; refine (HW2.out _).mono ?_; rintro z9 w2 ⟨rfl, rfl⟩))
  have hc0 := (HC.out w1 HX1.out).1
  have a0 := cell_of hc0 (i := 0) (u := .int .i64 b.ms) rfl
  have a1 := cell_of hc0 (i := 1) (u := .int .i64 b.ht) rfl
  have a2 := cell_of hc0 (i := 2) (u := .slice (some ⟨bA, oA, none⟩) N c) rfl
  have y2 := HY2.out _ (HX0.out.trans HX1.out)
  clear hc0 HW2
  cases r3 with
  | true =>
    have HE := Lib.hid (show corE b i x v t = 4 by rw [HER.out, if_neg (by simp), if_pos rfl])
    go_wp2_with (first | (go_at_call 86; refine (HCO.out _ (HX0.out.trans HX1.out)).mono ?_; rintro z9 w2 ⟨rfl, rfl⟩))
    have hs := st3 (HC.out _ HX1.out).2.2 (.int .i64 0) (.int .i64 0) (.slice none 0 0)
    have q0 := cell_of hs (i := 0) rfl
    have q1 := cell_of hs (i := 1) rfl
    have q2 := cell_of hs (i := 2) rfl
    refine bodyPost_ret (v := .tuple #[.agg #[.int .i64 0, .int .i64 0, .slice none 0 0], .int .i64 4]) (by simp [results, Tryz.results38, go_sem, q0, q1, q2]) rfl ?_
    exact ⟨HBAD.out _ HX1.out, .inl ⟨by rw [HE.out]; decide, by rw [HE.out]⟩⟩
  | false =>
  have HE := Lib.hid (show corE b i x v t = if 100 < x.vers.length + 1 ∨ 16384 < np then 2 else 0 by rw [HER.out, if_neg (by simp), if_neg (by simp)])
  clear HER k0 k1 k2 j0 j1 j2
  go_upto_if 31 with (first | (go_at_call 86; refine (HCO.out _ (HX0.out.trans HX1.out)).mono ?_; rintro z9 w2 ⟨rfl, rfl⟩))
  have hc1 := (HC.out w1 HX1.out).2.1
  have b0 := cell_of hc1 (i := 0) (u := .slice A3 n3 c3) rfl
  have b1 := cell_of hc1 (i := 1) (u := .slice A4 n4 c4) rfl
  clear hc1 y2 HCO
  go_upto_if 37 with (first | (go_at_call 83; refine (HWR.out _ (HX0.out.trans HX1.out)).mono ?_; rintro z9 w2 ⟨rfl, hx2⟩))
  have HX2 := Lib.hid (HX1.out.trans hx2)
  have hc0 := (HC.out w2 HX2.out).1
  have a0 := cell_of hc0 (i := 0) (u := .int .i64 b.ms) rfl
  have a1 := cell_of hc0 (i := 1) (u := .int .i64 b.ht) rfl
  have a2 := cell_of hc0 (i := 2) (u := .slice (some ⟨bA, oA, none⟩) N c) rfl
  clear hc0 hx2 HWR HX1 b0 b1
  go_upto_region 12 with (first | (go_at_call 76; refine (HCL.out _ (HX0.out.trans HX2.out)).mono ?_; rintro z9 w3 ⟨g, rfl, hbk, hx3⟩))
  clear a0 a1 a2 HCL HY2
  obtain ⟨w5, hw5⟩ : ∃ w5, w3.alloc (.cells #[.int .i64 b.ms, .int .i64 b.ht, .slice (some ⟨g, 0, none⟩) N N] 27) = w5 := ⟨_, rfl⟩
  obtain ⟨zb, hzb⟩ : ∃ z, w3.heap.size = z := ⟨_, rfl⟩
  have hx5 : Ext w3 w5 := by rw [← hw5]; exact (Ext.refl w3).alloc _
  have hB5 : w5.heap[zb]? = some (.cells #[.int .i64 b.ms, .int .i64 b.ht, .slice (some ⟨g, 0, none⟩) N N] 27 (0, 0)) := by rw [← hw5, ← hzb]; exact heap_alloc_at _ _ _ _ rfl
  rw [hw5, hzb]
  obtain ⟨ds, lof, hbg, hg3, hdl, hlo3, hall⟩ := hbk
  have hg3l := lt_of_block hg3
  have hl3 : lof b.secs.length ≤ w3.heap.size := hlo3.2.2
  have hx25 : Ext w2 w5 := hx3.trans hx5
  obtain ⟨lo, hi, A1, n1, c1, A2, n2, c2, A1', c1', w6, ⟨hglo, hlohi, hhi5, _, hg5⟩, hn1, hcells, hrun6, hb6, hk6, hs6, hC8⟩ := cor_mem (M := zb) (w5 := w5) hbg ((hx5.block _ hg3l).trans hg3) hdl ⟨hlo3.1, hlo3.2.1, by omega⟩ (Nat.le_of_lt (lt_of_block hB5)) (fun j d y hd hy => (hall j d y hd hy).keep hx5.lt fun q _ _ hl => hx5.block q hl) HXI.out (by have := HFZ.out.2.1; omega) (by have := HFZ.out.2.2; omega) v
  have HX25 := Lib.hid hx25
  have HX5 := Lib.hid (HX2.out.trans hx25)
  have HB5 := Lib.hid hB5
  have HGL := Lib.hid hg5
  have HGN := Lib.hid (show ¬ (lo ≤ g ∧ g < hi) by omega)
  have HBD := Lib.hid (show w2.heap.size ≤ g ∧ g < lo ∧ lo ≤ hi ∧ hi ≤ zb ∧ zb < w5.heap.size ∧ w2.heap.size ≤ w5.heap.size ∧ g < zb from ⟨hbg, hglo, hlohi, hhi5, lt_of_block hB5, hx25.lt, by omega⟩)
  have HR6 := Lib.hid hrun6
  have HK6 := Lib.hid hk6
  have HS6 := Lib.hid hs6
  have HB6 := Lib.hid hb6
  have HC8 := Lib.hid hC8
  have HN1 := Lib.hid hn1
  have HQS := Lib.hid (fun (X : World) (hX : X.heap[g]? = w5.heap[g]?) => (show X.cell? ⟨g, i * 4 + 2, none⟩ = some (.slice A1 n1 c1) ∧ X.cell? ⟨g, i * 4 + 3, none⟩ = some (.slice A2 n2 c2) from ⟨(hcells X hX).2.1, (hcells X hX).2.2.1⟩))
  have HQF := Lib.hid (fun (X : World) (hX : X.heap[g]? = w5.heap[g]?) => (show X.cell? ⟨g, i * 4 + 2, none⟩ = some (.slice A1 n1 c1) ∧ X.cell? ⟨g, i * 4 + 3, none⟩ = some (.slice A2 n2 c2) ∧ X.frozen? ⟨g, i * 4 + 2, none⟩ = false ∧ X.frozen? ⟨g, i * 4 + 3, none⟩ = false from (hcells X hX).2))
  have HQF3 := Lib.hid (fun (X : World) (u : Value) (hX : X.heap[g]? = w5.heap[g]?) => (show (X.setCell ⟨g, i * 4 + 2, none⟩ u).cell? ⟨g, i * 4 + 3, none⟩ = some (.slice A2 n2 c2) ∧ (X.setCell ⟨g, i * 4 + 2, none⟩ u).frozen? ⟨g, i * 4 + 3, none⟩ = false from
    ⟨(World.cell?_setCell_other _ _ _ _ (by intro e; injection e with e; omega)).trans (hcells X hX).2.2.1, by have h9 := (hcells X hX).2.2.2.2; simpa using h9⟩))
  have HT0 := Lib.hid (HC.out w5 HX5.out).2.1
  have hz1w := lt_of_block (HC.out w2 HX2.out).2.1
  have hz2w := lt_of_block (HC.out w2 HX2.out).2.2
  have HZW := Lib.hid (show z1 < w2.heap.size ∧ z2 < w2.heap.size from ⟨hz1w, hz2w⟩)
  have HQT := Lib.hid (fun (X : World) (hX : ∀ j, j < w5.heap.size → X.heap[j]? = w5.heap[j]?) => (show X.cell? ⟨z1, 0, none⟩ = some (.slice A3 n3 c3) ∧ X.cell? ⟨z1, 1, none⟩ = some (.slice A4 n4 c4) from
    ⟨cell_of ((hX z1 (lt_of_block HT0.out)).trans HT0.out) (i := 0) rfl, cell_of ((hX z1 (lt_of_block HT0.out)).trans HT0.out) (i := 1) rfl⟩))
  have HQT6 := Lib.hid (fun (X : World) (hX : ∀ j, j < w5.heap.size → ¬ (lo ≤ j ∧ j < hi) → X.heap[j]? = w5.heap[j]?) => (show X.cell? ⟨z1, 0, none⟩ = some (.slice A3 n3 c3) ∧ X.cell? ⟨z1, 1, none⟩ = some (.slice A4 n4 c4) from
    have h1 := (hX z1 (lt_of_block HT0.out) (by omega)).trans HT0.out
    ⟨cell_of h1 (i := 0) rfl, cell_of h1 (i := 1) rfl⟩))
  have HQS1 := Lib.hid (fun (X : World) (u : Value) (hX : ∀ j, j < w5.heap.size → ¬ (lo ≤ j ∧ j < hi) → X.heap[j]? = w5.heap[j]?) => (show (X.setCell ⟨g, i * 4 + 2, none⟩ u).cell? ⟨z1, 0, none⟩ = some (.slice A3 n3 c3) ∧ (X.setCell ⟨g, i * 4 + 2, none⟩ u).cell? ⟨z1, 1, none⟩ = some (.slice A4 n4 c4) from
    ⟨(World.cell?_setCell_other _ _ _ _ (by intro e; injection e with e; omega)).trans (HQT6.out X hX).1, (World.cell?_setCell_other _ _ _ _ (by intro e; injection e with e; omega)).trans (HQT6.out X hX).2⟩))
  have HQS2 := Lib.hid (fun (X : World) (u u' : Value) (hX : ∀ j, j < w5.heap.size → ¬ (lo ≤ j ∧ j < hi) → X.heap[j]? = w5.heap[j]?) => (show ((X.setCell ⟨g, i * 4 + 2, none⟩ u).setCell ⟨g, i * 4 + 3, none⟩ u').cell? ⟨z1, 0, none⟩ = some (.slice A3 n3 c3) ∧ ((X.setCell ⟨g, i * 4 + 2, none⟩ u).setCell ⟨g, i * 4 + 3, none⟩ u').cell? ⟨z1, 1, none⟩ = some (.slice A4 n4 c4) from
    ⟨(World.cell?_setCell_other _ _ _ _ (by intro e; injection e with e; omega)).trans (HQS1.out X u hX).1, (World.cell?_setCell_other _ _ _ _ (by intro e; injection e with e; omega)).trans (HQS1.out X u hX).2⟩))
  have HTX6 := Lib.hid (show Calls Tryz.prog 84 #[.agg #[.slice A3 n3 c3, .slice A4 n4 c4]] w6 (fun e w' => ∃ v', e = .returned v' ∧ TxV w' (fun j => w6.heap.size ≤ j) t v' ∧ Ext w6 w') from HTX.out _ (Below.trans (HX0.out.trans HX5.out) (hb6 w.heap.size (by have := (HX0.out.trans HX2.out).lt; omega))))
  have y1 := (hcells w5 rfl).1
  rw [HFZ.out.1] at y1
  have a2 := cell_of hB5 (i := 2) (u := .slice (some ⟨g, 0, none⟩) N N) rfl
  clear hw5 hzb hx5 hB5 hg3 hg3l hdl hlo3 hall hl3 hx3 hx25 hcells hrun6 hb6 hk6 hs6 hC8 hn1 hglo hlohi hhi5 hg5 hbg hz1w hz2w ds lof HTX
  go_upto_if 50 with (fail)
  go_upto_region 15 with (fail)
  have hT0 : (fun X : World => X.cell? ⟨z1, 0, none⟩ = some (.slice A3 n3 c3) ∧ X.cell? ⟨z1, 1, none⟩ = some (.slice A4 n4 c4)) w5.drew := HQT.out _ (fun j hj => rfl)
  have hS0 : (fun X : World => X.cell? ⟨g, i * 4 + 2, none⟩ = some (.slice A1 n1 c1) ∧ X.cell? ⟨g, i * 4 + 3, none⟩ = some (.slice A2 n2 c2)) w5.drew := HQS.out _ rfl
  refine wp_region_E (fun X : World => X.cell? ⟨g, i * 4 + 2, none⟩ = some (.slice A1 n1 c1) ∧ X.cell? ⟨g, i * 4 + 3, none⟩ = some (.slice A2 n2 c2)) (fun X : World => X.cell? ⟨z1, 0, none⟩ = some (.slice A3 n3 c3) ∧ X.cell? ⟨z1, 1, none⟩ = some (.slice A4 n4 c4)) (fun i => i == 1 || i == 9 || i == 10 || i == 11 || i == 13 || i == 19 || i == 20 || i == 21 || i == 22) (by kernel_rfl) ?_
  refine wpE_takeT (i := 13) (d := some 70) (v := .agg #[.slice A3 n3 c3, .slice A4 n4 c4]) rfl rfl (by kernel_rfl) (by kernel_rfl) (by kernel_rfl) rfl (fun _ _ _ h => h) (by rfl) ?hy1 hT0 ?go1
  case hy1 =>
    intro w9 hT9
    obtain ⟨y0, y1⟩ := hT9; go_simp
  (try simp only [Act.put, List.setIfInBounds_toArray, List.set_cons_zero, List.set_cons_succ])
  refine wpE_takeT (i := 1) (d := some 58) (v := .pointer (some ⟨g, i * 4, none⟩)) rfl rfl (by kernel_rfl) (by kernel_rfl) (by kernel_rfl) rfl (fun _ _ _ h => h) (by rfl) ?hy2 hT0 ?go2
  case hy2 =>
    intro w9 hT9
    clear hT9; go_simp
  (try simp only [Act.put, List.setIfInBounds_toArray, List.set_cons_zero, List.set_cons_succ])
  refine wpE_takeT (i := 9) (d := some 66) (v := .pointer (some ⟨g, i * 4, none⟩)) rfl rfl (by kernel_rfl) (by kernel_rfl) (by kernel_rfl) rfl (fun _ _ _ h => h) (by rfl) ?hy3 hT0 ?go3
  case hy3 =>
    intro w9 hT9
    clear hT9; go_simp
  (try simp only [Act.put, List.setIfInBounds_toArray, List.set_cons_zero, List.set_cons_succ])
  refine wpE_takeT (i := 10) (d := some 67) (v := .pointer (some ⟨g, i * 4, none⟩)) rfl rfl (by kernel_rfl) (by kernel_rfl) (by kernel_rfl) rfl (fun _ _ _ h => h) (by rfl) ?hy4 hT0 ?go4
  case hy4 =>
    intro w9 hT9
    clear hT9; go_simp
  (try simp only [Act.put, List.setIfInBounds_toArray, List.set_cons_zero, List.set_cons_succ])
  refine wpE_takeT (i := 11) (d := some 68) (v := .pointer (some ⟨g, i * 4 + 3, none⟩)) rfl rfl (by kernel_rfl) (by kernel_rfl) (by kernel_rfl) rfl (fun _ _ _ h => h) (by rfl) ?hy5 hT0 ?go5
  case hy5 =>
    intro w9 hT9
    clear hT9; go_simp
  (try simp only [Act.put, List.setIfInBounds_toArray, List.set_cons_zero, List.set_cons_succ])
  refine wpE_takeS (i := 0) (d := some 57) (v := .pointer (some ⟨g, i * 4, none⟩)) rfl rfl (by kernel_rfl) (by kernel_rfl) (by kernel_rfl) (by kernel_rfl) (fun _ _ _ h => h) (by rfl) ?hy6 hS0 hT0 ?go6
  case hy6 =>
    intro w9 hT9
    clear hT9; go_simp
  (try simp only [Act.put, List.setIfInBounds_toArray, List.set_cons_zero, List.set_cons_succ])
  refine wpE_takeS (i := 2) (d := some 59) (v := .pointer (some ⟨g, i * 4, none⟩)) rfl rfl (by kernel_rfl) (by kernel_rfl) (by kernel_rfl) (by kernel_rfl) (fun _ _ _ h => h) (by rfl) ?hy7 hS0 hT0 ?go7
  case hy7 =>
    intro w9 hT9
    clear hT9; go_simp
  (try simp only [Act.put, List.setIfInBounds_toArray, List.set_cons_zero, List.set_cons_succ])
  refine wpE_takeS (i := 3) (d := some 60) (v := .pointer (some ⟨g, i * 4, none⟩)) rfl rfl (by kernel_rfl) (by kernel_rfl) (by kernel_rfl) (by kernel_rfl) (fun _ _ _ h => h) (by rfl) ?hy8 hS0 hT0 ?go8
  case hy8 =>
    intro w9 hT9
    clear hT9; go_simp
  (try simp only [Act.put, List.setIfInBounds_toArray, List.set_cons_zero, List.set_cons_succ])
  refine wpE_takeS (i := 4) (d := some 61) (v := .pointer (some ⟨g, i * 4 + 2, none⟩)) rfl rfl (by kernel_rfl) (by kernel_rfl) (by kernel_rfl) (by kernel_rfl) (fun _ _ _ h => h) (by rfl) ?hy9 hS0 hT0 ?go9
  case hy9 =>
    intro w9 hT9
    clear hT9; go_simp
  (try simp only [Act.put, List.setIfInBounds_toArray, List.set_cons_zero, List.set_cons_succ])
  refine wpE_takeS (i := 5) (d := some 62) (v := .slice A1 n1 c1) rfl rfl (by kernel_rfl) (by kernel_rfl) (by kernel_rfl) (by kernel_rfl) (fun _ _ _ h => h) (by rfl) ?hy10 hS0 hT0 ?go10
  case hy10 =>
    intro w9 hT9
    obtain ⟨y0, y1⟩ := hT9; go_simp
  (try simp only [Act.put, List.setIfInBounds_toArray, List.set_cons_zero, List.set_cons_succ])
  refine wpE_takeS (i := 6) (d := some 63) (v := .int .i64 v) rfl rfl (by kernel_rfl) (by kernel_rfl) (by kernel_rfl) (by kernel_rfl) (fun _ _ _ h => h) (by rfl) ?hy11 hS0 hT0 ?go11
  case hy11 =>
    intro w9 hT9
    clear hT9; go_simp
  (try simp only [Act.put, List.setIfInBounds_toArray, List.set_cons_zero, List.set_cons_succ])
  refine wpE_takeS (i := 12) (d := some 69) (v := .slice A2 n2 c2) rfl rfl (by kernel_rfl) (by kernel_rfl) (by kernel_rfl) (by kernel_rfl) (fun _ _ _ h => h) (by rfl) ?hy12 hS0 hT0 ?go12
  case hy12 =>
    intro w9 hT9
    obtain ⟨y0, y1⟩ := hT9; go_simp
  (try simp only [Act.put, List.setIfInBounds_toArray, List.set_cons_zero, List.set_cons_succ])
  refine wpE_all (rs := [7]) (by kernel_rfl) (by simp) ?_
  refine AllE.cons rfl (fun K hK => ?_) AllE.nil
  simp only [List.getElem_toArray, List.getElem_cons_succ, List.getElem_cons_zero]
  go_simp
  have hb7 : ∀ j, j < w5.heap.size → ((w5.alloc (.cells #[.int .i64 v] 3)).drew).heap[j]? = w5.heap[j]? := fun j hj => heap_alloc_old w5 _ j hj
  refine hK.out _ _ ⟨fun _ => (HQS.out _ (hb7 g HGL.out)), (HQT.out _ hb7)⟩ (fun _ => ?_)
  clear hK K
  have hS0 := (HQS.out _ (hb7 g HGL.out))
  have hT0 := (HQT.out _ hb7)
  (try simp only [Act.put, List.setIfInBounds_toArray, List.set_cons_zero, List.set_cons_succ])
  refine wpE_all (rs := [8]) (by kernel_rfl) (by simp) ?_
  refine AllE.cons rfl (fun K hK => ?_) AllE.nil
  simp only [List.getElem_toArray, List.getElem_cons_succ, List.getElem_cons_zero]
  refine step_append_tm (s := .tmp 62) (x := .tmp 64) HR6.out rfl rfl rfl rfl rfl ?_
  refine hK.out _ _ ⟨fun _ => (HQS.out _ (HK6.out g HGL.out HGN.out)), (HQT6.out _ HK6.out)⟩ (fun _ => ?_)
  clear hK K
  have hS0 := (HQS.out _ (HK6.out g HGL.out HGN.out))
  have hT0 := (HQT6.out _ HK6.out)
  (try simp only [Act.put, List.setIfInBounds_toArray, List.set_cons_zero, List.set_cons_succ])
  refine wpE_all (rs := [14]) (by kernel_rfl) (by simp) ?_
  refine AllE.cons rfl (fun K hK => ?_) AllE.nil
  simp only [List.getElem_toArray, List.getElem_cons_succ, List.getElem_cons_zero]
  go_simp
  go_at_call 84
  refine (HTX6.out).mono ?_
  rintro z9 wG ⟨_, rfl, ⟨A7, n7, c7, A8, n8, c8, rfl, h7, h8, hr7, hr8⟩, hxG⟩
  simp only []
  obtain ⟨A2', c2', w8, hrun8, hb8, hk8, hs8, hrow8⟩ := HC8.out t wG A7 A8 n7 c7 n8 c8 hxG h7 h8 hr7 hr8
  have HG9 := Lib.hid (fun j (hj : j < w5.heap.size) (hn : ¬ (lo ≤ j ∧ j < hi)) => (hxG.block j (Nat.lt_of_lt_of_le hj HS6.out)).trans (HK6.out j hj hn))
  have HGT := Lib.hid (fun j (hj : j < w5.heap.size) (hn : ¬ (lo ≤ j ∧ j < hi)) => (heap_alloc_old wG (.cells #[.slice A7 n7 c7, .slice A8 n8 c8] 53) j (Nat.lt_of_lt_of_le (Nat.lt_of_lt_of_le hj HS6.out) hxG.lt)).trans (HG9.out j hj hn))
  have HK8 := Lib.hid hk8
  have HROW8 := Lib.hid hrow8
  have HB8 := Lib.hid (And.intro hb8 hs8)
  have HRUN8 := Lib.hid hrun8
  clear hr7 hr8 hxG hrun8 hb8 hk8 hs8 hrow8
  refine hK.out _ _ ⟨fun _ => (HQS.out _ (HG9.out g HGL.out HGN.out)), (HQT6.out _ HG9.out)⟩ (fun _ => ?_)
  clear hK K
  have hS0 := (HQS.out _ (HG9.out g HGL.out HGN.out))
  have hT0 := (HQT6.out _ HG9.out)
  (try simp only [Act.put, List.setIfInBounds_toArray, List.set_cons_zero, List.set_cons_succ])
  refine wpE_all (rs := [15]) (by kernel_rfl) (by simp) ?_
  refine AllE.cons rfl (fun K hK => ?_) AllE.nil
  simp only [List.getElem_toArray, List.getElem_cons_succ, List.getElem_cons_zero]
  go_simp
  refine hK.out _ _ ⟨fun _ => (HQS.out _ (HGT.out g HGL.out HGN.out)), (HQT6.out _ HGT.out)⟩ (fun _ => ?_)
  clear hK K
  have hS0 := (HQS.out _ (HGT.out g HGL.out HGN.out))
  have hT0 := (HQT6.out _ HGT.out)
  (try simp only [Act.put, List.setIfInBounds_toArray, List.set_cons_zero, List.set_cons_succ])
  refine wpE_all (rs := [16]) (by kernel_rfl) (by simp) ?_
  refine AllE.cons rfl (fun K hK => ?_) AllE.nil
  simp only [List.getElem_toArray, List.getElem_cons_succ, List.getElem_cons_zero]
  refine step_append_tm (s := .tmp 69) (x := .tmp 72) HRUN8.out rfl rfl rfl rfl rfl ?_
  refine hK.out _ _ ⟨fun _ => (HQS.out _ (HK8.out g HGL.out HGN.out)), (HQT6.out _ HK8.out)⟩ (fun _ => ?_)
  clear hK K
  have hS0 := (HQS.out _ (HK8.out g HGL.out HGN.out))
  have hT0 := (HQT6.out _ HK8.out)
  (try simp only [Act.put, List.setIfInBounds_toArray, List.set_cons_zero, List.set_cons_succ])
  refine wpE_all (rs := [17]) (by kernel_rfl) (by simp) ?_
  refine AllE.cons rfl (fun K hK => ?_) AllE.nil
  simp only [List.getElem_toArray, List.getElem_cons_succ, List.getElem_cons_zero]
  go_simp
  refine hK.out _ _ ⟨fun _ => (HQS.out _ (HK8.out g HGL.out HGN.out)), (HQT6.out _ HK8.out)⟩ (fun _ => ?_)
  clear hK K
  have hS0 := (HQS.out _ (HK8.out g HGL.out HGN.out))
  have hT0 := (HQT6.out _ HK8.out)
  (try simp only [Act.put, List.setIfInBounds_toArray, List.set_cons_zero, List.set_cons_succ])
  refine wpE_all (rs := [18]) (by kernel_rfl) (by simp) ?_
  refine AllE.cons rfl (fun K hK => ?_) AllE.nil
  simp only [List.getElem_toArray, List.getElem_cons_succ, List.getElem_cons_zero]
  go_simp
  refine hK.out _ _ ⟨fun _ => (HQS.out _ (HK8.out g HGL.out HGN.out)), (HQT6.out _ HK8.out)⟩ (fun _ => ?_)
  clear hK K
  have hS0 := (HQS.out _ (HK8.out g HGL.out HGN.out))
  have hT0 := (HQT6.out _ HK8.out)
  (try simp only [Act.put, List.setIfInBounds_toArray, List.set_cons_zero, List.set_cons_succ])
  refine wpE_all (rs := [19]) (by kernel_rfl) (by simp) ?_
  refine AllE.cons rfl (fun K hK => ?_) AllE.nil
  simp only [List.getElem_toArray, List.getElem_cons_succ, List.getElem_cons_zero]
  have z5 := HQF.out w8 (HK8.out g HGL.out HGN.out)
  obtain ⟨z50, z51, z52, z53⟩ := z5
  go_simp
  refine hK.out _ _ ⟨fun h => absurd h (by simp), (HQS1.out w8 (.slice A1' (n1 + 1) c1') HK8.out)⟩ (fun _ => ?_)
  clear hK K
  have hT0 := (HQS1.out w8 (.slice A1' (n1 + 1) c1') HK8.out)
  (try simp only [Act.put, List.setIfInBounds_toArray, List.set_cons_zero, List.set_cons_succ])
  clear hS0
  refine wpE_all (rs := [20]) (by kernel_rfl) (by simp) ?_
  refine AllE.cons rfl (fun K hK => ?_) AllE.nil
  simp only [List.getElem_toArray, List.getElem_cons_succ, List.getElem_cons_zero]
  go_simp
  refine hK.out _ _ ⟨fun h => absurd h (by simp), (HQS1.out w8 (.slice A1' (n1 + 1) c1') HK8.out)⟩ (fun _ => ?_)
  clear hK K
  have hT0 := (HQS1.out w8 (.slice A1' (n1 + 1) c1') HK8.out)
  (try simp only [Act.put, List.setIfInBounds_toArray, List.set_cons_zero, List.set_cons_succ])
  refine wpE_all (rs := [21]) (by kernel_rfl) (by simp) ?_
  refine AllE.cons rfl (fun K hK => ?_) AllE.nil
  simp only [List.getElem_toArray, List.getElem_cons_succ, List.getElem_cons_zero]
  go_simp
  refine hK.out _ _ ⟨fun h => absurd h (by simp), (HQS1.out w8 (.slice A1' (n1 + 1) c1') HK8.out)⟩ (fun _ => ?_)
  clear hK K
  have hT0 := (HQS1.out w8 (.slice A1' (n1 + 1) c1') HK8.out)
  (try simp only [Act.put, List.setIfInBounds_toArray, List.set_cons_zero, List.set_cons_succ])
  refine wpE_all (rs := [22]) (by kernel_rfl) (by simp) ?_
  refine AllE.cons rfl (fun K hK => ?_) AllE.nil
  simp only [List.getElem_toArray, List.getElem_cons_succ, List.getElem_cons_zero]
  have z6 := HQF3.out w8 (.slice A1' (n1 + 1) c1') (HK8.out g HGL.out HGN.out)
  obtain ⟨z60, z61⟩ := z6
  go_simp
  refine hK.out _ _ ⟨fun h => absurd h (by simp), (HQS2.out w8 (.slice A1' (n1 + 1) c1') (.slice A2' (n2 + 1) c2') HK8.out)⟩ (fun _ => ?_)
  clear hK K
  have hT0 := (HQS2.out w8 (.slice A1' (n1 + 1) c1') (.slice A2' (n2 + 1) c2') HK8.out)
  (try simp only [Act.put, List.setIfInBounds_toArray, List.set_cons_zero, List.set_cons_succ])
  clear hT0
  refine wpE_done (by kernel_rfl) ?_ _
  have HCC := Lib.hid (show CoC w w2 ((w8.setCell ⟨g, i * 4 + 2, none⟩ (.slice A1' (n1 + 1) c1')).setCell ⟨g, i * 4 + 3, none⟩ (.slice A2' (n2 + 1) c2')) zb g N i n1 b.ms b.ht (corP b i x v t).secs from by
    have hbd := HBD.out
    have hk : ∀ j, j ≠ g → ((w8.setCell ⟨g, i * 4 + 2, none⟩ (.slice A1' (n1 + 1) c1')).setCell ⟨g, i * 4 + 3, none⟩ (.slice A2' (n2 + 1) c2')).heap[j]? = w8.heap[j]? := fun j hj => by
      rw [heap_setCell_other _ ⟨g, i * 4 + 3, none⟩ j _ hj, heap_setCell_other _ ⟨g, i * 4 + 2, none⟩ j _ hj]
    refine ⟨fun j hj => (hk j (by omega)).trans ((HK8.out j (by omega) (by omega)).trans (HX25.out.block j hj)), (hk zb (by omega)).trans ((HK8.out zb (by omega) (by omega)).trans HB5.out), ?_, ?_, ?_⟩
    · obtain ⟨o, ho⟩ : ∃ o, w8.heap[g]? = some o := ⟨_, Array.getElem?_eq_getElem (by have := HB8.out.2; omega)⟩
      have h9 := (HQF.out w8 (HK8.out g HGL.out HGN.out)).1
      exact ⟨A1', c1', (World.cell?_setCell_other _ _ _ _ (by intro e; injection e with _ e; omega)).trans (World.cell?_setCell_same _ _ _ h9)⟩
    · have h9 := HROW8.out
      rw [← HN.out] at h9
      exact h9
    · have hw2 := (HX0.out.trans HX2.out).lt
      exact ((Below.trans (HX0.out.trans HX5.out) (HB8.out.1 w.heap.size (by omega))).setCell (p := ⟨g, i * 4 + 2, none⟩) (by show w.heap.size ≤ g; omega) _).setCell (p := ⟨g, i * 4 + 3, none⟩) (by show w.heap.size ≤ g; omega) _)
  obtain ⟨W10, hW10⟩ : ∃ W, (w8.setCell ⟨g, i * 4 + 2, none⟩ (.slice A1' (n1 + 1) c1')).setCell ⟨g, i * 4 + 3, none⟩ (.slice A2' (n2 + 1) c2') = W := ⟨_, rfl⟩
  rw [hW10] at HCC ⊢
  clear hW10 HK8 HB8 HROW8 HRUN8 HG9 HGT HC8 HTX6 HR6 HK6 HS6 HB6 HQS HQF HQF3 HQT HQT6 HQS1 HQS2 y1 a2
  obtain ⟨A9, c9, y9⟩ := HCC.out.v
  have hb10 := HCC.out.b
  have a0 := cell_of hb10 (i := 0) (u := .int .i64 b.ms) rfl
  have a1 := cell_of hb10 (i := 1) (u := .int .i64 b.ht) rfl
  have a2 := cell_of hb10 (i := 2) (u := .slice (some ⟨g, 0, none⟩) N N) rfl
  have hR2 := (HC.out w2 HX2.out).2.2
  have hR10 := (HCC.out.k z2 (lt_of_block hR2)).trans hR2
  have HR10 := Lib.hid hR10
  obtain ⟨k0, k1, k2, j0, j1, j2⟩ := BkR.of hR10
  clear hb10 hR2 hR10
  by_cases h100 : 100 < n1 + 1
  · have hI9 : (100 : Int) < (n1 : Int) + 1 := by omega
    have HE0 := Lib.hid (show corE b i x v t = 2 by rw [HE.out, if_pos (.inl (by have := HN1.out; omega))])
    clear h100
    go_wp2_with fail
    have HRF := HR10
    have hxf : Ext W10 W10 := Ext.refl _
    have hs := st3 HRF.out (.int .i64 0) (.int .i64 0) (.slice none 0 0)
    have q0 := cell_of hs (i := 0) rfl
    have q1 := cell_of hs (i := 1) rfl
    have q2 := cell_of hs (i := 2) rfl
    refine bodyPost_ret (v := .tuple #[.agg #[.int .i64 0, .int .i64 0, .slice none 0 0], .int .i64 2]) (by simp [results, Tryz.results38, go_sem, q0, q1, q2]) rfl ?_
    refine ⟨ext3 (HCC.out.x.trans hxf) (by have := HZ.out; omega) _ _ _, ?_⟩
    exact .inl ⟨by rw [HE0.out]; decide, by rw [HE0.out]⟩
  · have hI9 : ¬ (100 : Int) < (n1 : Int) + 1 := by omega
    have HN9 := Lib.hid (show ¬ 100 < x.vers.length + 1 by have := HN1.out; omega)
    clear h100 k0 k1 k2 j0 j1 j2
    by_cases hc : 16384 < np
    · have HE0 := Lib.hid (show corE b i x v t = 2 by rw [HE.out, if_pos (.inr hc)])
      have HF := Lib.hid (show Calls Tryz.prog 85 #[.agg #[.int .i64 b.ms, .int .i64 b.ht, .slice (some ⟨g, 0, none⟩) N N]] W10 (fun z9 wf => Ext W10 wf ∧ z9 = .returned (.tuple #[.agg #[.int .i64 0, .int .i64 0, .slice none 0 0], .int .i64 2])) from by
        refine (HFT.out _ HCC.out.x _ _ N HCC.out.r).mono ?_
        rintro z9 wf ⟨hxf, (⟨hnp, rfl⟩ | ⟨hnp, rfl⟩)⟩
        · omega
        · exact ⟨hxf, rfl⟩)
      clear HFT
      go_wp2_with (first | (go_at_call 85; refine (HF.out).mono ?_; rintro z9 wf ⟨hxf, rfl⟩; have hRf := (hxf.block _ (lt_of_block HR10.out)).trans HR10.out; obtain ⟨k0, k1, k2, j0, j1, j2⟩ := BkR.of hRf; have HRF := Lib.hid hRf; clear hRf))
      have hs := st3 HRF.out (.int .i64 0) (.int .i64 0) (.slice none 0 0)
      have q0 := cell_of hs (i := 0) rfl
      have q1 := cell_of hs (i := 1) rfl
      have q2 := cell_of hs (i := 2) rfl
      refine bodyPost_ret (v := .tuple #[.agg #[.int .i64 0, .int .i64 0, .slice none 0 0], .int .i64 2]) (by simp [results, Tryz.results38, go_sem, q0, q1, q2]) rfl ?_
      refine ⟨ext3 (HCC.out.x.trans hxf) (by have := HZ.out; omega) _ _ _, ?_⟩
      exact .inl ⟨by rw [HE0.out]; decide, by rw [HE0.out]⟩
    · have HE0 := Lib.hid (show corE b i x v t = 0 by rw [HE.out, if_neg (by rintro (h | h); exact HN9.out h; exact hc h)])
      have HF := Lib.hid (show Calls Tryz.prog 85 #[.agg #[.int .i64 b.ms, .int .i64 b.ht, .slice (some ⟨g, 0, none⟩) N N]] W10 (fun z9 wf => Ext W10 wf ∧ z9 = .returned (.tuple #[.agg #[.int .i64 b.ms, .int .i64 b.ht, .slice (some ⟨g, 0, none⟩) N N], .int .i64 0])) from by
        refine (HFT.out _ HCC.out.x _ _ N HCC.out.r).mono ?_
        rintro z9 wf ⟨hxf, (⟨hnp, rfl⟩ | ⟨hnp, rfl⟩)⟩
        · exact ⟨hxf, rfl⟩
        · omega)
      clear HFT
      go_wp2_with (first | (go_at_call 85; refine (HF.out).mono ?_; rintro z9 wf ⟨hxf, rfl⟩; have hRf := (hxf.block _ (lt_of_block HR10.out)).trans HR10.out; obtain ⟨k0, k1, k2, j0, j1, j2⟩ := BkR.of hRf; have HRF := Lib.hid hRf; clear hRf))
      have hs := st3 HRF.out (.int .i64 b.ms) (.int .i64 b.ht) (.slice (some ⟨g, 0, none⟩) N N)
      have q0 := cell_of hs (i := 0) rfl
      have q1 := cell_of hs (i := 1) rfl
      have q2 := cell_of hs (i := 2) rfl
      refine bodyPost_ret (v := .tuple #[.agg #[.int .i64 b.ms, .int .i64 b.ht, .slice (some ⟨g, 0, none⟩) N N], .int .i64 0]) (by simp [results, Tryz.results38, go_sem, q0, q1, q2]) rfl ?_
      refine ⟨ext3 (HCC.out.x.trans hxf) (by have := HZ.out; omega) _ _ _, ?_⟩
      have hwl := (HX0.out.trans HX2.out).lt
      refine .inr ⟨HE0.out, some ⟨g, 0, none⟩, N, N, rfl, Nat.le_refl _, Lay.row_mono (Lay.row_keep HCC.out.r (by have := hxf.lt; simp; omega) fun j hj hl => ?_) fun j hj _ => Nat.le_trans hwl hj⟩
      have hz9 : j ≠ z2 := by have := HZW.out.2; omega
      exact (heap_setCell_other _ ⟨z2, 2, none⟩ j _ hz9).trans ((heap_setCell_other _ ⟨z2, 1, none⟩ j _ hz9).trans ((heap_setCell_other _ ⟨z2, 0, none⟩ j _ hz9).trans (hxf.block j hl)))
end Go.Proofs.YtdbnddmncbjobaaGreatDoor

/- append of numbers onto rows of the call's own, at any length that fits. -/
namespace Go.Proofs.YtdbnddmncbjobaaGreatDoor
open Go Go.RowKit

theorem info3c : (Tryz.prog.info? 3).map (fun i => (i.zero, i.size, i.bytes)) = some (some (Value.int .i64 0), 1, 8) := by kernel_rfl
theorem SL.row {W : World} {A : Option Addr} {l : List Int} (h : SL icf 1 W A l.length l) : ∀ j x, l[j]? = some x → ∃ b off, A = some ⟨b, off, none⟩ ∧ W.cell? ⟨b, off + j, none⟩ = some (.int .i64 x) := by
  intro j x hx
  obtain ⟨b, off, rfl, _, hc⟩ := h.2 (by have := (List.getElem?_eq_some_iff.1 hx).1; omega)
  have h1 := hc j x hx 0 (.int .i64 x) rfl
  rw [Nat.mul_one, Nat.add_zero] at h1
  exact ⟨b, off, rfl, h1⟩
/-- A row of numbers of the call's own. -/
def OI (W : World) (base : Nat) (v : Value) (xs : List Int) : Prop := W.ownsRow base 3 1 v xs.length (xs.map (Value.int .i64))
theorem OI.new (W : World) (b : Nat) {base : Nat} (h : W.heap[b]? = some (.cells #[] 3 (0, 0))) (hb : base ≤ b) : OI W base (.slice (some ⟨b, 0, none⟩) 0 0) [] :=
  ⟨rfl, .inr ⟨b, 0, #[], rfl, hb, h, Nat.le_refl _, by simp [maxLen], by simp, rfl⟩⟩
theorem OI.ext {W W' : World} {base : Nat} {v : Value} {xs : List Int} (h : OI W base v xs) (hx : Ext W W') : OI W' base v xs := by
  refine ⟨h.1, ?_⟩
  rcases h.2 with h2 | ⟨g, cap, cur, a1, a2, a3, a4⟩
  · exact .inl h2
  · exact .inr ⟨g, cap, cur, a1, a2, (hx.block _ (lt_of_block a3)).trans a3, a4⟩
theorem OI.lt {W : World} {base : Nat} {v : Value} {xs : List Int} (h : OI W base v xs) : ∀ j, v.ownBlock = some j → base ≤ j ∧ j < W.heap.size := World.ownsRow.lt h
theorem OI.form {W : World} {base : Nat} {v : Value} {xs : List Int} (h : OI W base v xs) : ∃ A c, v = .slice A xs.length c ∧ xs.length ≤ c ∧ SL icf 1 W A xs.length xs := by
  rcases h.2 with ⟨rfl, h0⟩ | ⟨g, cap, cur, rfl, h2, h3, h4, h5, h6, h7⟩
  · have : xs = [] := List.eq_nil_of_length_eq_zero h0
    subst this
    exact ⟨none, 0, rfl, Nat.le_refl _, SL.nil _⟩
  · refine ⟨some ⟨g, 0, none⟩, cap, rfl, h4, rfl, fun hl => ⟨g, 0, rfl, lt_of_block h3, fun i a ha j u hu => ?_⟩⟩
    cases j with
    | zero =>
      injection hu with hu
      subst hu
      rw [Nat.mul_one, Nat.add_zero, Nat.zero_add]
      have hil := (List.getElem?_eq_some_iff.1 ha).1
      have h8 : (cur.toList.take (xs.length * 1))[i]? = some (.int .i64 a) := by rw [h7, List.getElem?_map, ha]; rfl
      rw [List.getElem?_take, if_pos (by omega)] at h8
      exact cell_of h3 (by simpa using h8)
    | succ j => cases hu
theorem OI.app {X : World} {base : Nat} {v : Value} {xs : List Int} (h : OI X base v xs) {A : Option Addr} {ys : List Int} (hs : SL icf 1 X A ys.length ys) (c : Nat) (hm : (xs.length + ys.length) * 8 ≤ 140737488355328) (hb : base ≤ X.heap.size) :
    ∃ A' c' w', (Builtin.append_ #[22, 22] 22 #[v, .slice A ys.length c]).run Tryz.prog X = .ok (.slice A' (xs.length + ys.length) c') w' ∧ OI w' base (.slice A' (xs.length + ys.length) c') (xs ++ ys) ∧ (∀ B, B ≤ base → Below B X w') ∧
      (∀ j, j < X.heap.size → v.ownBlock ≠ some j → w'.heap[j]? = X.heap[j]?) ∧ X.heap.size ≤ w'.heap.size ∧ (∀ j, (Value.slice A' (xs.length + ys.length) c').ownBlock = some j → v.ownBlock = some j ∨ X.heap.size ≤ j) := by
  obtain ⟨A', c', w', r1, r2, r3, r4, r5⟩ := run_append_src5 (P := Tryz.prog) (t := 22) Tryz.underlying22 info3c rfl (by decide) h (A := A) (m := ys.length) (c := c) (news := ys.map (Value.int .i64)) (by simp)
    (fun h0 => by
      obtain ⟨b, off, rfl, _, hc⟩ := hs.2 h0
      refine ⟨b, off, rfl, fun j u hu => ?_⟩
      rw [List.getElem?_map] at hu
      cases hy : ys[j]? with
      | none => rw [hy] at hu; cases hu
      | some y =>
        rw [hy] at hu
        injection hu with hu
        subst hu
        have h1 := hc j y hy 0 (.int .i64 y) rfl
        rwa [Nat.mul_one, Nat.add_zero] at h1)
    (fun u hu => by obtain ⟨y, _, rfl⟩ := List.mem_map.1 hu; rfl) (by simp only [maxLen]; omega) hm hb
  refine ⟨A', c', w', r1, ?_, r3, fun j hj hne => r4 j hj (fun a => ownBlock_of hne a), (r3 base (Nat.le_refl _)).size, fun j hj => ?_⟩
  rotate_left
  · rcases r5 with r5 | r5
    · exact .inl (r5.symm.trans hj)
    · rw [r5] at hj; injection hj with hj; exact .inr (by omega)
  unfold OI
  rw [List.length_append, List.map_append]
  exact r2
/-- Between operations: what has come lies in blocks made since; the blocks pr lie as they were laid; ow: a row of the call's own, in none of them. -/
structure RG (wr X : World) (pr : List (Nat × Array Value × TypeId)) (ow : Option (Value × List Int)) : Prop where
  x : Ext wr X
  k : ∀ p ∈ pr, X.heap[p.1]? = some (.cells p.2.1 p.2.2 (0, 0))
  o : ∀ v xs, ow = some (v, xs) → OI X wr.heap.size v xs ∧ ∀ p ∈ pr, v.ownBlock ≠ some p.1
  b : ∀ p ∈ pr, wr.heap.size ≤ p.1
theorem RG.start (wr : World) {X : World} (h : Ext wr X) : RG wr X [] none := ⟨h, fun p hp => absurd hp (by simp), fun v xs h => (nomatch h), fun p hp => absurd hp (by simp)⟩
theorem RG.lay {wr X : World} {pr : List (Nat × Array Value × TypeId)} {ow : Option (Value × List Int)} (h : RG wr X pr ow) (cs : Array Value) (t : TypeId) : RG wr (X.alloc (.cells cs t)) ((X.heap.size, cs, t) :: pr) ow := by
  refine ⟨h.x.alloc _, fun p hp => ?_, fun v xs ho => ?_, fun p hp => ?_⟩
  · rcases List.mem_cons.1 hp with rfl | hp
    · exact heap_alloc_at _ _ _ _ rfl
    · exact (heap_alloc_old _ _ _ (lt_of_block (h.k p hp))).trans (h.k p hp)
  · obtain ⟨h1, h2⟩ := h.o v xs ho
    refine ⟨h1.ext ((Ext.refl _).alloc _), fun p hp e => ?_⟩
    rcases List.mem_cons.1 hp with rfl | hp
    · have := (h1.lt _ e).2; exact absurd this (Nat.lt_irrefl _)
    · exact h2 p hp e
  · rcases List.mem_cons.1 hp with rfl | hp
    · exact h.x.lt
    · exact h.b p hp
theorem RG.own0 {wr X : World} {pr : List (Nat × Array Value × TypeId)} (h : RG wr X pr none) : RG wr (X.alloc (.cells #[] 3)) pr (some (.slice (some ⟨X.heap.size, 0, none⟩) 0 0, [])) := by
  refine ⟨h.x.alloc _, fun p hp => (heap_alloc_old _ _ _ (lt_of_block (h.k p hp))).trans (h.k p hp), fun v xs ho => ?_, h.b⟩
  obtain ⟨rfl, rfl⟩ := Prod.mk.inj (Option.some.inj ho)
  refine ⟨OI.new _ _ (heap_alloc_at _ _ _ _ rfl) h.x.lt, fun p hp e => ?_⟩
  have := lt_of_block (h.k p hp)
  simp only [Value.ownBlock, Option.some.injEq] at e
  omega
theorem RG.call {wr X X' : World} {pr : List (Nat × Array Value × TypeId)} {ow : Option (Value × List Int)} (h : RG wr X pr ow) (hx : Ext X X') : RG wr X' pr ow :=
  ⟨h.x.trans hx, fun p hp => (hx.block _ (lt_of_block (h.k p hp))).trans (h.k p hp), fun v xs ho => ⟨(h.o v xs ho).1.ext hx, (h.o v xs ho).2⟩, h.b⟩
theorem RG.app {wr X : World} {pr : List (Nat × Array Value × TypeId)} {v : Value} {xs : List Int} (h : RG wr X pr (some (v, xs))) {A : Option Addr} {m : Nat} {ys : List Int} (hs : SL icf 1 X A ys.length ys) (hm0 : m = ys.length) (c : Nat) (hm : (xs.length + ys.length) * 8 ≤ 140737488355328) :
    ∃ A' n' c' w', (Builtin.append_ #[22, 22] 22 #[v, .slice A m c]).run Tryz.prog X = .ok (.slice A' n' c') w' ∧ n' = (xs ++ ys).length ∧ RG wr w' pr (some (.slice A' n' c', xs ++ ys)) := by
  subst hm0
  obtain ⟨h1, h2⟩ := h.o v xs rfl
  obtain ⟨A', c', w', r1, r2, r3, r4, r5, r6⟩ := h1.app hs c hm h.x.lt
  refine ⟨A', _, c', w', r1, by simp, Below.trans h.x (r3 _ (Nat.le_refl _)), fun p hp => (r4 _ (lt_of_block (h.k p hp)) (h2 p hp)).trans (h.k p hp), fun v' xs' ho => ?_, h.b⟩
  obtain ⟨rfl, rfl⟩ := Prod.mk.inj (Option.some.inj ho)
  refine ⟨r2, fun p hp e => ?_⟩
  rcases r6 _ e with h6 | h6
  · exact h2 p hp h6
  · have := lt_of_block (h.k p hp); omega
theorem one_sl {W : World} {y : Nat} {x : Int} (h : W.heap[y]? = some (.cells #[.int .i64 x] 3 (0, 0))) : SL icf 1 W (some ⟨y, 0, none⟩) [x].length [x] := by
  refine ⟨rfl, fun _ => ⟨y, 0, rfl, lt_of_block h, fun i a ha j u hu => ?_⟩⟩
  cases i with
  | zero =>
    injection ha with ha
    subst ha
    cases j with
    | zero => injection hu with hu; subst hu; exact cell_of h rfl
    | succ j => cases hu
  | succ i => cases ha
/-- A generated text that lies in X. -/
def GtR (X : World) (t : Tx) (B1 : Option Addr) (m1 d1 : Nat) (B2 : Option Addr) (m2 d2 : Nat) : Prop := OkT t ∧ m1 ≤ d1 ∧ m2 ≤ d2 ∧ kWs.row X (fun _ => True) B1 m1 t.paras ∧ kWs.row X (fun _ => True) B2 m2 t.notes
def GtU (X : World) (u : Nat) (t : Tx) (B1 : Option Addr) (m1 d1 : Nat) (B2 : Option Addr) (m2 d2 : Nat) : Prop := OkT t ∧ m1 ≤ d1 ∧ m2 ≤ d2 ∧ kWs.row X (fun j => j ≠ u) B1 m1 t.paras ∧ kWs.row X (fun j => j ≠ u) B2 m2 t.notes
theorem GtR.lay {X : World} {t : Tx} {B1 : Option Addr} {m1 d1 : Nat} {B2 : Option Addr} {m2 d2 : Nat} (h : GtR X t B1 m1 d1 B2 m2 d2) (o : Obj) : GtU (X.alloc o) X.heap.size t B1 m1 d1 B2 m2 d2 :=
  ⟨h.1, h.2.1, h.2.2.1, Lay.row_ext (Lay.row_mono h.2.2.2.1 fun _ _ hl => Nat.ne_of_lt hl) ((Ext.refl X).alloc _), Lay.row_ext (Lay.row_mono h.2.2.2.2 fun _ _ hl => Nat.ne_of_lt hl) ((Ext.refl X).alloc _)⟩
/-- The text t in the block to which the slot points. -/
def KwT (wr : World) (s24 : Value) (wx : World) : Prop := ∃ (u : Nat) (t : Tx) (B1 : Option Addr) (m1 d1 : Nat) (B2 : Option Addr) (m2 d2 : Nat), s24 = .pointer (some ⟨u, 0, none⟩) ∧ OkT t ∧ wx.heap[u]? = some (.cells #[.slice B1 m1 d1, .slice B2 m2 d2] 53 (0, 0)) ∧
  kWs.row wx (fun _ => True) B1 m1 t.paras ∧ kWs.row wx (fun _ => True) B2 m2 t.notes ∧ Ext wr wx
theorem kw_fin {wr X : World} {u : Nat} {t : Tx} {B1 : Option Addr} {m1 d1 : Nat} {B2 : Option Addr} {m2 d2 : Nat} (hx : Ext wr X) (hu : X.heap[u]? = some (.cells #[.slice none 0 0, .slice none 0 0] 53 (0, 0))) (hb : wr.heap.size ≤ u) (hg : GtU X u t B1 m1 d1 B2 m2 d2) :
    KwT wr (.pointer (some ⟨u, 0, none⟩)) ((X.setCell ⟨u, 0, none⟩ (.slice B1 m1 d1)).setCell ⟨u, 1, none⟩ (.slice B2 m2 d2)) ∧ Ext wr ((X.setCell ⟨u, 0, none⟩ (.slice B1 m1 d1)).setCell ⟨u, 1, none⟩ (.slice B2 m2 d2)) := by
  obtain ⟨h1, h2, h3, h4, h5⟩ := hg
  have hk : ∀ j, j ≠ u → ((X.setCell ⟨u, 0, none⟩ (.slice B1 m1 d1)).setCell ⟨u, 1, none⟩ (.slice B2 m2 d2)).heap[j]? = X.heap[j]? := fun j hj => by
    rw [heap_setCell_other _ ⟨u, 1, none⟩ j _ hj, heap_setCell_other _ ⟨u, 0, none⟩ j _ hj]
  have he : Ext wr ((X.setCell ⟨u, 0, none⟩ (.slice B1 m1 d1)).setCell ⟨u, 1, none⟩ (.slice B2 m2 d2)) := (hx.setCell (p := ⟨u, 0, none⟩) hb _).setCell (p := ⟨u, 1, none⟩) hb _
  refine ⟨⟨u, t, B1, m1, d1, B2, m2, d2, rfl, h1, ?_, Lay.row_mono (Lay.row_keep h4 (by simp) fun j hj _ => hk j hj) fun _ _ _ => trivial, Lay.row_mono (Lay.row_keep h5 (by simp) fun j hj _ => hk j hj) fun _ _ _ => trivial, he⟩, he⟩
  exact heap_setCell_same _ u 1 _ 53 _ (heap_setCell_same _ u 0 _ 53 _ hu)
end Go.Proofs.YtdbnddmncbjobaaGreatDoor

/- The reference's SameInts and SameLines at rows of the same elements: walked. -/
namespace Go.Proofs.YtdbnddmncbjobaaGreatDoor
open Go Go.RowKit

def QuT (w : World) (e : Ending) (w' : World) : Prop := e = .returned (.bool true) ∧ ∃ m, w' = w.drewN m
def SmR (k : Nat) (w : World) (s5 : Value) (w' : World) : Prop := ∃ (i m : Nat), i ≤ k ∧ s5 = .int .i64 i ∧ w' = w.drewN m
theorem drewN_cat (w : World) (m x k : Nat) : (w.drewN (m + x)).drewN k = w.drewN (m + (x + k)) := by simp [World.drewN, Nat.add_assoc]
theorem Ext.of_drewN (w : World) (m : Nat) : Ext w (w.drewN m) := (Ext.refl w).drewN m
set_option maxHeartbeats 4000000 in
set_option maxRecDepth 100000 in
theorem sameI_any (P P' : Nat → Prop) (w : World) (A A' : Option Addr) (n n' c c' : Nat) (xs : List Int) (h1 : kInt.row w P A n xs) (h2 : kInt.row w P' A' n' xs) (hn : n ≤ 1000000) :
    Calls Tryz.prog 93 #[.slice A n c, .slice A' n' c'] w (QuT w) := by
  have hl := Lay.row_len h1
  obtain rfl : n' = n := by rw [Lay.row_len h2, hl]
  have HR1 := Lib.hid h1
  have HR2 := Lib.hid h2
  have HL := Lib.hid hl
  clear h1 h2 hl
  go_enter Tryz.func93, Tryz.ntmps93
  go_wp2_with fail
  go_loopw [5] (fun s5 w' => SmR n' w s5 w') (fun s5 _ => toM n' s5)
  case atStart => exact ⟨0, 0, by omega, rfl, rfl⟩
  case round =>
    obtain ⟨i, m, hi, rfl, rfl⟩ := hrel
    by_cases hlt : i < n'
    case neg =>
      obtain rfl : i = n' := by omega
      have hni : ¬ ((i : Int) < (i : Int)) := by omega
      go_wp2_with fail
      go_ret
      exact ⟨rfl, m, rfl⟩
    have hI : (i : Int) < (n' : Int) := by omega
    obtain ⟨x, hxi⟩ : ∃ x, xs[i]? = some x := ⟨_, List.getElem?_eq_getElem (by have := HL.out; omega)⟩
    obtain ⟨b, off, rfl, hb1, _, hcell⟩ := int_at HR1.out hxi
    obtain ⟨b', off', rfl, hb1', _, hcell'⟩ := int_at HR2.out hxi
    clear hxi
    go_wp2_with fail
    go_quiet (fail)
    go_wp2_with fail
    go_roundw
    case rel => exact ⟨i + 1, m + nq, by omega, by simp, by simp [World.drewN]⟩
    case measure => simp only [toM]; omega
set_option maxHeartbeats 4000000 in
set_option maxRecDepth 100000 in
theorem sameL_any (P P' : Nat → Prop) (w : World) (A A' : Option Addr) (n n' c c' : Nat) (xs : List Ln) (h1 : kLn.row w P A n xs) (h2 : kLn.row w P' A' n' xs) (hn : n ≤ 1000000) (hb : ∀ x ∈ xs, x.gaps.length ≤ 1000000 ∧ x.nts.length ≤ 1000000) :
    Calls Tryz.prog 46 #[.slice A n c, .slice A' n' c'] w (QuT w) := by
  have hl := Lay.row_len h1
  obtain rfl : n' = n := by rw [Lay.row_len h2, hl]
  have HR1 := Lib.hid h1
  have HR2 := Lib.hid h2
  have HL := Lib.hid hl
  have HB := Lib.hid hb
  clear h1 h2 hl hb
  go_enter Tryz.func46, Tryz.ntmps46
  go_wp2_with fail
  go_loopw [5, 6, 7] (fun s5 _ _ w' => SmR n' w s5 w') (fun s5 _ _ _ => toM n' s5)
  case atStart => exact ⟨0, 0, by omega, rfl, rfl⟩
  case round =>
    obtain ⟨i, m, hi, rfl, rfl⟩ := hrel
    by_cases hlt : i < n'
    case neg =>
      obtain rfl : i = n' := by omega
      have hni : ¬ ((i : Int) < (i : Int)) := by omega
      go_wp2_with fail
      go_ret
      exact ⟨rfl, m, rfl⟩
    have hI : (i : Int) < (n' : Int) := by omega
    obtain ⟨x, hxi⟩ : ∃ x, xs[i]? = some x := ⟨_, List.getElem?_eq_getElem (by have := HL.out; omega)⟩
    have hbx := HB.out x (List.mem_of_getElem? hxi)
    obtain ⟨b, off, cs, rfl, hb1, _, hrep, hcl⟩ := Lay.row_at HR1.out hxi
    obtain ⟨b', off', cs', rfl, hb1', _, hrep', hcl'⟩ := Lay.row_at HR2.out hxi
    obtain ⟨B1, m1, l1, B2, m2, l2, rfl, _, _, hg1, hg2⟩ := kLn_rep.1 hrep
    obtain ⟨B1', m1', l1', B2', m2', l2', rfl, _, _, hg1', hg2'⟩ := kLn_rep.1 hrep'
    have y0 := hcl 0 _ rfl
    have y1 := hcl 1 _ rfl
    have y2 := hcl 2 _ rfl
    have y3 := hcl 3 _ rfl
    have y0' := hcl' 0 _ rfl
    have y1' := hcl' 1 _ rfl
    have y2' := hcl' 2 _ rfl
    have y3' := hcl' 3 _ rfl
    rw [kLn_sz] at y0 y1 y2 y3 y0' y1' y2' y3'
    rw [Nat.add_zero] at y0 y0'
    have HG := Lib.hid (fun k => sameI_any P P' (w.drewN k) B1 B1' m1 m1' l1 l1' x.gaps (Lay.row_ext hg1 (Ext.of_drewN w k)) (Lay.row_ext hg1' (Ext.of_drewN w k)) (by have := Lay.row_len hg1; omega))
    have HN := Lib.hid (fun k => sameI_any P P' (w.drewN k) B2 B2' m2 m2' l2 l2' x.nts (Lay.row_ext hg2 (Ext.of_drewN w k)) (Lay.row_ext hg2' (Ext.of_drewN w k)) (by have := Lay.row_len hg2; omega))
    have y9 : (x.fr != x.fr) = false := by simp
    have y8 : (x.un != x.un) = false := by simp
    clear hxi hrep hrep' hcl hcl' hg1 hg2 hg1' hg2' hbx
    go_upto_region 6 with (fail)
    go_quiet (first | (go_at_call 93; refine (HG.out _).mono ?_; rintro e w1 ⟨rfl, k, rfl⟩; exact ⟨rfl, _, drewN_cat _ _ _ _⟩))
    go_upto_region 7 with (fail)
    go_quiet (first | (go_at_call 93; refine (HN.out _).mono ?_; rintro e w1 ⟨rfl, k, rfl⟩; exact ⟨rfl, _, drewN_cat _ _ _ _⟩))
    go_wp2_with fail
    go_quiet (fail)
    go_wp2_with fail
    go_roundw
    case rel => exact ⟨i + 1, _, by omega, by simp, rfl⟩
    case measure => simp only [toM]; omega
end Go.Proofs.YtdbnddmncbjobaaGreatDoor

/- The lines of a generated book's pages are short. -/
namespace Go.Proofs.YtdbnddmncbjobaaGreatDoor
open Go Go.RowKit

theorem notesOf_mem {R : Ln → Prop} {notes : List (List Ln)} (hn : ∀ ls ∈ notes, ∀ l ∈ ls, R l) (x : Ln) : ∀ l ∈ notesOf notes x, R l := by
  intro l hl
  unfold notesOf at hl
  rw [List.mem_flatMap] at hl
  obtain ⟨n, _, h1⟩ := hl
  cases h2 : notes[n.toNat]? with
  | none => rw [h2] at h1; simp at h1
  | some ls => rw [h2] at h1; exact hn ls (List.mem_of_getElem? h2) l h1
theorem fillP_mem {R : Ln → Prop} (h : Int) {notes : List (List Ln)} (hn : ∀ ls ∈ notes, ∀ l ∈ ls, R l) : ∀ (body q : List Ln) (lines : Nat) (shown : Int), (∀ l ∈ q, R l) → ∀ l ∈ (fillP h notes body q lines shown).2.1, R l := by
  intro body
  induction body with
  | nil => intro q lines shown hq l hl; exact hq l hl
  | cons x r ih =>
    intro q lines shown hq l hl
    unfold fillP at hl
    split at hl
    · exact ih _ _ _ (fun y hy => by
        rcases List.mem_append.1 hy with hy | hy
        · exact hq y hy
        · exact notesOf_mem hn x y hy) l hl
    · exact hq l hl
theorem setF_mem {R : Ln → Prop} (h : Int) {notes : List (List Ln)} (hn : ∀ ls ∈ notes, ∀ l ∈ ls, R l) : ∀ (f : Nat) (body q : List Ln), (∀ l ∈ body, R l) → (∀ l ∈ q, R l) → ∀ pg ∈ setF h notes f body q, ∀ l ∈ pg.1 ++ pg.2, R l := by
  intro f
  induction f with
  | zero => intro body q _ _ pg hp; simp [setF] at hp
  | succ f ih =>
    intro body q hb hq pg hp
    unfold setF at hp
    split at hp
    · simp at hp
    · have hm := fillP_mem h hn body q 0 (min (q.length : Int) (h - 1)) hq
      rcases List.mem_cons.1 hp with rfl | hp
      · intro l hl
        rcases List.mem_append.1 hl with hl | hl
        · exact hb l (List.mem_of_mem_take hl)
        · exact hm l (List.mem_of_mem_take hl)
      · exact ih _ _ (fun l hl => hb l (List.mem_of_mem_drop hl)) (fun l hl => hm l (List.mem_of_mem_drop hl)) pg hp
theorem textP_lns {t : Tx} {m h : Int} (hT : TxP t m h) : ∀ pg ∈ (textP t m h).2, ∀ l ∈ pg.1 ++ pg.2, l.gaps.length ≤ 1000000 ∧ l.nts.length ≤ 1000000 := by
  rw [hT.eq]
  unfold setPg
  rw [if_neg (by rw [hT.pg]; simp)]
  have hb : ∀ {L : List Ln}, LnsB L → ∀ l ∈ L, l.gaps.length ≤ 1000000 ∧ l.nts.length ≤ 1000000 := fun hl l h => by have := hl l h; omega
  exact setF_mem h (fun ls hls => hb (hT.lnn ls hls)) _ _ _ (hb hT.lnb) (fun l hl => by simp at hl)
theorem OkB.lns {b : Bk} {N V : Nat} (h : OkB b N V) : ∀ p ∈ pagesB b, (∀ l ∈ p.body, l.gaps.length ≤ 1000000 ∧ l.nts.length ≤ 1000000) ∧ (∀ l ∈ p.nts, l.gaps.length ≤ 1000000 ∧ l.nts.length ≤ 1000000) := by
  intro p hp
  have := pagesS_all (fun x y => ∀ l ∈ x ++ y, l.gaps.length ≤ 1000000 ∧ l.nts.length ≤ 1000000) b.ms b.ht b.secs 0 (fun x hx t ht q hq => textP_lns (txP_of (h.tx x hx t ht) h.m0 h.m1 h.h0 h.h1) q hq) p hp
  exact ⟨fun l hl => this l (List.mem_append_left _ hl), fun l hl => this l (List.mem_append_right _ hl)⟩
theorem cit_mem {b : Bk} {n s line : Int} {p : Pg} {x : Ln} (h : citP b n s line = some (p, x)) : p ∈ pagesB b ∧ (x ∈ p.body ∨ x ∈ p.nts) := by
  unfold citP at h
  cases hp : pageP b n s with
  | none => rw [hp] at h; cases h
  | some q =>
    rw [hp, Option.bind_some] at h
    split at h
    · cases h
    · cases hx : (q.body ++ q.nts)[(line - 1).toNat]? with
      | none => rw [hx] at h; cases h
      | some y =>
        rw [hx] at h
        simp only [Option.map_some, Option.some.injEq, Prod.mk.injEq] at h
        obtain ⟨rfl, rfl⟩ := h
        exact ⟨(page_mem hp).1, List.mem_append.1 (List.mem_of_getElem? hx)⟩
end Go.Proofs.YtdbnddmncbjobaaGreatDoor
