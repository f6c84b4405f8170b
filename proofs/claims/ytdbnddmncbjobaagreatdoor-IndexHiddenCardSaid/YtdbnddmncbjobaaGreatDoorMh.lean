/- book.Add: walked. -/
import Derived.Test.YtdbnddmncbjobaaGreatDoorMg
import Derived.Test.YtdbnddmncbjobaaGreatDoorMf
import Derived.Test.YtdbnddmncbjobaaGreatDoorMd
import Derived.Test.YtdbnddmncbjobaaGreatDoorMa
import Derived.WalkKit
import Derived.BigQuiet
import Derived.Sort.Grow
import Derived.Deep.RegionHeld3
import Derived.Deep.RegionLaw
import Derived.Maps.OwnOps
import Derived.Maps.Views
import Derived.Shelf.SlSortCmp.WholeK
import Derived.Shelf.Small.Strs
import Derived.Test.YtdbnddmncbjobaaGreatDoorProg
import Derived.Sort.OwnSorted
import Derived.Lib.SliceRun
namespace Go.Proofs.YtdbnddmncbjobaaGreatDoor
open Go Go.RowKit

theorem BkO.own {W : World} {base : Nat} {ls : List Se} {g n : Nat} (h : BkO W base ls g) (hn : n = ls.length) (hn2 : n ≤ 1000000) : kSe.own 46 W base (fun q => g < q) (.slice (some ⟨g, 0, none⟩) n n) ls := by
  obtain ⟨ds, h0, h1, h2, h3⟩ := h
  have hl := gcells_len (cf := ccf) ccf_len ds
  refine ⟨ds, ⟨gcells_len ccf_len _, .inr ⟨g, n, _, by rw [h2, hn], h0, h1, by rw [h2, hn]; exact Nat.le_refl _, by simp only [maxLen]; omega, by rw [List.size_toArray, hl, h2, hn], by rw [show (gcells ccf ds).toArray.toList = gcells ccf ds from rfl, List.take_of_length_le (by rw [hl]; exact Nat.le_refl _)]⟩⟩, h2, fun i d x hd hx => ?_⟩
  exact kSe.mono (h3 i d x hd hx) fun q hq _ => ⟨hq, by simp [Value.ownBlock]; omega⟩
/-- The error of Add at a good text. -/
def addE (b : Bk) (e v : Int) (t : Tx) : Int :=
  if 0 ≤ idxI (fun x => x.ent == e) b.secs then 4
  else if (decide (0 ≤ e) && decide (e ≤ 65535)) = false ∨ (decide (0 ≤ v) && decide (v ≤ 2147483647)) = false then 5
  else if 16384 < (pagesB (addP b e v t)).length then 2 else 0
/-- A book, or an error. -/
def OpPost (w : World) (er ms ht : Int) (ls : List Se) (z : Ending) (w' : World) : Prop :=
  Ext w w' ∧ ((er ≠ 0 ∧ z = .returned (.tuple #[.agg #[.int .i64 0, .int .i64 0, .slice none 0 0], .int .i64 er])) ∨
    (er = 0 ∧ ∃ A n c, z = .returned (.tuple #[.agg #[.int .i64 ms, .int .i64 ht, .slice A n c], .int .i64 0]) ∧ n ≤ c ∧ kSe.row w' (fun j => w.heap.size ≤ j) A n ls))
/-- The result's cells. -/
structure BkR (z : Nat) (W : World) : Prop where
  c0 : W.cell? ⟨z, 0, none⟩ = some (.int .i64 0)
  c1 : W.cell? ⟨z, 1, none⟩ = some (.int .i64 0)
  c2 : W.cell? ⟨z, 2, none⟩ = some (.slice none 0 0)
  f0 : W.frozen? ⟨z, 0, none⟩ = false
  f1 : W.frozen? ⟨z, 1, none⟩ = false
  f2 : W.frozen? ⟨z, 2, none⟩ = false
theorem BkR.of {z : Nat} {W : World} (h : W.heap[z]? = some (.cells #[.int .i64 0, .int .i64 0, .slice none 0 0] 27 (0, 0))) : BkR z W :=
  ⟨cell_of h (i := 0) rfl, cell_of h (i := 1) rfl, cell_of h (i := 2) rfl, frozen_of h 0, frozen_of h 1, frozen_of h 2⟩
/-- The book that Add has made, in block zb. -/
def AdC (w w2 : World) (zb n : Nat) (ms ht : Int) (ls : List Se) (wx : World) : Prop := (∀ j, j < w2.heap.size → wx.heap[j]? = w2.heap[j]?) ∧ ∃ A9 c9, wx.heap[zb]? = some (.cells #[.int .i64 ms, .int .i64 ht, .slice A9 n c9] 27 (0, 0)) ∧ n ≤ c9 ∧ kSe.row wx (fun j => w2.heap.size ≤ j) A9 n ls ∧ Ext w wx
/-- append of a section of one version. -/
theorem sec_app {w5 X : World} {base g n : Nat} {ls : List Se} {R : Nat → Prop} (hR : ∀ j, w5.heap.size ≤ j → R j) (h : kSe.own 46 w5 base R (.slice (some ⟨g, 0, none⟩) n n) ls) (hn : n = ls.length) (hn2 : n ≤ 1000000) (hb : base ≤ w5.heap.size) (hg : g < w5.heap.size) (hX : Ext w5 X) {gv gt : Nat} {e v : Int} {t : Tx} {A7 A8 : Option Addr} {n7 c7 n8 c8 : Nat}
    (hgv : X.heap[gv]? = some (.cells #[.int .i64 v] 3 (0, 0))) (hv5 : w5.heap.size ≤ gv) (hgt : X.heap[gt]? = some (.cells #[.slice A7 n7 c7, .slice A8 n8 c8] 53 (0, 0))) (ht5 : w5.heap.size ≤ gt) (h7 : n7 ≤ c7) (h8 : n8 ≤ c8)
    (r7 : kWs.row X (fun j => w5.heap.size ≤ j) A7 n7 t.paras) (r8 : kWs.row X (fun j => w5.heap.size ≤ j) A8 n8 t.notes) :
    ∃ A' c' w', (Builtin.append_ #[25, 25] 25 #[.slice (some ⟨g, 0, none⟩) n n, .slice (some ⟨X.heap.size, 0, none⟩) 1 1]).run Tryz.prog (X.alloc (.cells #[.int .i64 e, .bool false, .slice (some ⟨gv, 0, none⟩) 1 1, .slice (some ⟨gt, 0, none⟩) 1 1] 46)) = .ok (.slice A' (n + 1) c') w' ∧
      kSe.own 46 w' base R (.slice A' (n + 1) c') (ls ++ [⟨e, false, [v], [t]⟩]) ∧ (∀ B, B ≤ base → Below B X w') ∧ (∀ j, j < X.heap.size → j ≠ g → w'.heap[j]? = X.heap[j]?) ∧ X.heap.size ≤ w'.heap.size ∧ (∀ j, (Value.slice A' (n + 1) c').ownBlock = some j → j = g ∨ X.heap.size ≤ j) := by
  have hrv : kInt.row X (fun j => w5.heap.size ≤ j) (some ⟨gv, 0, none⟩) 1 [v] := by
    have ha : Arr X gv [v] := hgv
    exact ha.row _ hv5
  have hrt : kTx.row X (fun j => w5.heap.size ≤ j) (some ⟨gt, 0, none⟩) 1 [t] := by
    have hrep : kTx.rep X (fun j => w5.heap.size ≤ j) t [.slice A7 n7 c7, .slice A8 n8 c8] := kTx_rep.2 ⟨A7, n7, c7, A8, n8, c8, rfl, h7, h8, r7, r8⟩
    obtain ⟨d0, hd0⟩ : ∃ d0 : Cs kTx.sz, ccf d0 = [.slice A7 n7 c7, .slice A8 n8 c8] := mkCs _ (kTx.len hrep) (kTx.one hrep)
    refine ⟨[d0], rfl, rfl, ⟨rfl, fun _ => ⟨gt, 0, rfl, lt_of_block hgt, fun i d hd j u hu => ?_⟩⟩, fun x hx => ?_, fun i d x hd hx => ?_⟩
    · cases i with
      | zero =>
        injection hd with hd
        subst hd
        rw [hd0] at hu
        rw [Nat.zero_mul, Nat.zero_add]
        exact cell_of hgt (by simpa using hu)
      | succ i => cases hd
    · injection hx with hx; subst hx; exact ⟨ht5, lt_of_block hgt⟩
    · cases i with
      | zero =>
        injection hd with hd
        injection hx with hx
        subst hd hx
        show kTx.rep X _ t (ccf d0)
        rw [hd0]; exact hrep
      | succ i => cases hd
  have hsub : ∀ j, w5.heap.size ≤ j → j < X.heap.size → R j ∧ (Value.slice (some ⟨g, 0, none⟩) n n).ownBlock ≠ some j := fun j hj _ => ⟨hR j hj, by simp [Value.ownBlock]; omega⟩
  obtain ⟨A', c', w', r1, r2, r3, r4, r5, r6⟩ := own_app1 (k := kSe) (Pr := Tryz.prog) (t := 25) Tryz.underlying25 info46 rfl (by decide) (by omega) (Lay.own_ext h hX) (Nat.le_trans hb hX.lt) (cs := #[.int .i64 e, .bool false, .slice (some ⟨gv, 0, none⟩) 1 1, .slice (some ⟨gt, 0, none⟩) 1 1]) (T := 46) (x := ⟨e, false, [v], [t]⟩)
    (kSe_rep.2 ⟨_, 1, 1, _, 1, 1, rfl, Nat.le_refl _, Nat.le_refl _, Lay.row_mono hrv hsub, Lay.row_mono hrt hsub⟩) 1 (by omega)
  rw [← hn] at r1 r2 r6
  exact ⟨A', c', w', r1, r2, r3, fun j hj hne => r4 j hj (by simp [Value.ownBlock]; omega), r5, fun j hj => (r6 j hj).imp (fun h => by simpa [Value.ownBlock] using h.symm) id⟩
theorem step_append_tm {P : Program} {w : World} {ys : Nat → Option Bool} {o : Oper} {a : Act} {K : Act → World → Prop} {Q : Exit → Act → World → Prop} {E : Prop} {s x : Operand} {t : TypeId} {vs vx v' : Value} {w' : World}
    (hr : (Builtin.append_ #[t, t] t #[vs, vx]).run P w = .ok v' w') (hgd : o.guard = none)
    (ho : o.op = .call { callee := .builtin .append, args := #[s, x], argTypes := #[t, t] }) (hty : o.type = t) (hs : a.eval s = vs) (hx : a.eval x = vx)
    (h : K (a.put o.dst v') w') : if Region.wanted o ys = true then Oper.wp P o a w K Q else E := by
  have hw : Region.wanted o ys = true := by simp [Region.wanted, hgd]
  rw [if_pos hw]
  unfold Oper.wp execOp
  simp only [ho, hty, resolve, invoke, builtin, Sem.run_bind, Sem.run_pure, Result.andThen_ok, List.map_toArray, List.map_cons, List.map_nil, hs, hx, hr]
  exact h
set_option maxHeartbeats 4000000 in
set_option maxRecDepth 100000 in
theorem add_any (P Q : Nat → Prop) (w : World) (b : Bk) (e v : Int) (t : Tx) (A A3 A4 : Option Addr) (N c n3 c3 n4 c4 : Nat) (hb : BkI b) (hh : 4 ≤ b.ht) (hb2 : ¬ 0 ≤ idxI (fun x => x.ent == e) b.secs → BkI (addP b e v t)) (hT : OkT t) (hr : kSe.row w P A N b.secs) (h3 : kWs.row w Q A3 n3 t.paras) (h4 : kWs.row w Q A4 n4 t.notes) (hL : EnvW w) :
    Calls Tryz.prog 37 #[.agg #[.int .i64 b.ms, .int .i64 b.ht, .slice A N c], .int .i64 e, .int .i64 v, .agg #[.slice A3 n3 c3, .slice A4 n4 c4]] w (OpPost w (addE b e v t) b.ms b.ht (b.secs ++ [⟨e, false, [v], [t]⟩])) := by
  have hN := Lay.row_len hr
  have hN6 : N ≤ 1000000 := by have := hb.s.n; omega
  obtain ⟨r, hri⟩ : ∃ r, idxI (fun x => x.ent == e) b.secs = r := ⟨_, rfl⟩
  obtain ⟨r1, hr1⟩ : ∃ r1, (decide (0 ≤ e) && decide (e ≤ 65535)) = r1 := ⟨_, rfl⟩
  obtain ⟨r2, hr2⟩ : ∃ r2, (decide (0 ≤ v) && decide (v ≤ 2147483647)) = r2 := ⟨_, rfl⟩
  have HFD := Lib.hid (fun X (hX : Ext w X) => (show Calls Tryz.prog 81 #[.agg #[.int .i64 b.ms, .int .i64 b.ht, .slice A N c], .int .i64 e] X (fun z w' => z = .returned (.int .i64 r) ∧ Ext X w') from by rw [← hri]; exact find_any P X b.ms b.ht e b.secs A N c (Lay.row_ext hr hX) hN6))
  have HW1 := Lib.hid (fun X => (show Calls Tryz.prog 82 #[.int .i64 e, .int .i64 0, .int .i64 65535] X (fun z w' => z = .returned (.bool r1) ∧ X = w') from by rw [← hr1]; exact within_any X e 0 65535))
  have HW2 := Lib.hid (fun X => (show Calls Tryz.prog 82 #[.int .i64 v, .int .i64 0, .int .i64 2147483647] X (fun z w' => z = .returned (.bool r2) ∧ X = w') from by rw [← hr2]; exact within_any X v 0 2147483647))
  have HWR := Lib.hid (fun X (hX : Ext w X) => wrong_ok Q X b.ms b.ht A N c t A3 A4 n3 n4 c3 c4 (Lay.row_ext h3 hX) (Lay.row_ext h4 hX) hT hb.m0 hb.m1 hh hb.h.2 (hL.ext hX))
  have HCL := Lib.hid (fun X (hX : Ext w X) => cloned_any P X b A N c (Lay.row_ext hr hX) hb.s)
  have HTX := Lib.hid (fun X (hX : Ext w X) => text_any Q X t A3 A4 n3 n4 c3 c4 (Lay.row_ext h3 hX) (Lay.row_ext h4 hX) (by have := Lay.row_len h3; have := hT.np; omega) (by have := Lay.row_len h4; have := hT.nn; omega) hT.small.len)
  have HFT0 := Lib.hid (fun (h : r < 0) X (hX : Ext w X) (A9 : Option Addr) (c9 : Nat) h9 => bfits_any (fun j => w.heap.size ≤ j) X (addP b e v t) A9 (N + 1) c9 (hb2 (by rw [hri]; omega)) h9 (hL.ext hX))
  have HER := Lib.hid (show addE b e v t = if 0 ≤ r then 4 else if r1 = false ∨ r2 = false then 5 else if 16384 < (pagesB (addP b e v t)).length then 2 else 0 by unfold addE; rw [hri, hr1, hr2])
  obtain ⟨np, hnp⟩ : ∃ np, (pagesB (addP b e v t)).length = np := ⟨_, rfl⟩
  rw [hnp] at HFT0 HER
  have HN := Lib.hid hN
  clear hb hb2 hh hT hr h3 h4 hL hri hr1 hr2 hN hnp
  go_enter Tryz.func37, Tryz.ntmps37
  go_upto_region 1 with (fail)
  obtain ⟨W0, hW0⟩ : ∃ W0, ((w.alloc (.cells #[.int .i64 b.ms, .int .i64 b.ht, .slice A N c] 27)).alloc (.cells #[.slice A3 n3 c3, .slice A4 n4 c4] 53)).alloc (.cells #[.int .i64 0, .int .i64 0, .slice none 0 0] 27) = W0 := ⟨_, rfl⟩
  obtain ⟨z, hz⟩ : ∃ z, w.heap.size = z := ⟨_, rfl⟩
  have hx0 : Ext w W0 := by rw [← hW0]; exact (((Ext.refl w).alloc _).alloc _).alloc _
  have hB0 : W0.heap[z]? = some (.cells #[.int .i64 b.ms, .int .i64 b.ht, .slice A N c] 27 (0, 0)) := by rw [← hW0, ← hz, heap_alloc_old _ _ _ (by simp; omega), heap_alloc_old _ _ _ (by simp)]; exact heap_alloc_at _ _ _ _ rfl
  have hB1 : W0.heap[z + 1]? = some (.cells #[.slice A3 n3 c3, .slice A4 n4 c4] 53 (0, 0)) := by rw [← hW0, ← hz, heap_alloc_old _ _ _ (by simp)]; exact heap_alloc_at _ _ _ _ (by simp)
  have hB2 : W0.heap[z + 1 + 1]? = some (.cells #[.int .i64 0, .int .i64 0, .slice none 0 0] 27 (0, 0)) := by rw [← hW0, ← hz]; exact heap_alloc_at _ _ _ _ (by simp)
  obtain ⟨z2, hz2⟩ : ∃ z2, z + 1 + 1 = z2 := ⟨_, rfl⟩
  obtain ⟨z1, hz1⟩ : ∃ z1, z + 1 = z1 := ⟨_, rfl⟩
  rw [hz2] at hB2
  rw [hz1] at hB1
  rw [hW0, hz, hz2, hz1]
  have HZ := Lib.hid (show w.heap.size = z ∧ z1 = z + 1 ∧ z2 = z + 2 by omega)
  have HX0 := Lib.hid hx0
  have HC := Lib.hid (fun X (hX : Ext W0 X) => (show X.heap[z]? = some (.cells #[.int .i64 b.ms, .int .i64 b.ht, .slice A N c] 27 (0, 0)) ∧ X.heap[z1]? = some (.cells #[.slice A3 n3 c3, .slice A4 n4 c4] 53 (0, 0)) ∧ X.heap[z2]? = some (.cells #[.int .i64 0, .int .i64 0, .slice none 0 0] 27 (0, 0)) from
    ⟨(hX.block _ (lt_of_block hB0)).trans hB0, (hX.block _ (lt_of_block hB1)).trans hB1, (hX.block _ (lt_of_block hB2)).trans hB2⟩))
  have a0 := cell_of hB0 (i := 0) (u := .int .i64 b.ms) rfl
  have a1 := cell_of hB0 (i := 1) (u := .int .i64 b.ht) rfl
  have a2 := cell_of hB0 (i := 2) (u := .slice A N c) rfl
  clear hW0 hz hx0 hB0 hB1 hB2 hz1 hz2
  go_upto_if 15 with (first | (go_at_call 81; refine (HFD.out _ HX0.out).mono ?_; rintro z9 w1 ⟨rfl, hx1⟩))
  have HX1 := Lib.hid hx1
  obtain ⟨k0, k1, k2, j0, j1, j2⟩ := BkR.of (HC.out w1 hx1).2.2
  clear a0 a1 a2 HFD hx1
  by_cases hge : 0 ≤ r
  · have HE := Lib.hid (show addE b e v t = 4 by rw [HER.out, if_pos hge])
    go_wp2_with fail
    have hs := st3 (HC.out w1 HX1.out).2.2 (.int .i64 0) (.int .i64 0) (.slice none 0 0)
    have q0 := cell_of hs (i := 0) rfl
    have q1 := cell_of hs (i := 1) rfl
    have q2 := cell_of hs (i := 2) rfl
    refine bodyPost_ret (v := .tuple #[.agg #[.int .i64 0, .int .i64 0, .slice none 0 0], .int .i64 4]) (by simp [results, Tryz.results37, go_sem, q0, q1, q2]) rfl ?_
    exact ⟨ext3 (HX0.out.trans HX1.out) (by have := HZ.out; omega) _ _ _, .inl ⟨by rw [HE.out]; decide, by rw [HE.out]⟩⟩
  have hge' : ¬ (0 : Int) ≤ r := hge
  have HFT := Lib.hid (HFT0.out (by omega))
  clear HFT0
  have hbad : ∀ (X : World), Ext W0 X → addE b e v t = 5 → Ext w (((X.setCell ⟨z2, 0, none⟩ (.int .i64 0)).setCell ⟨z2, 1, none⟩ (.int .i64 0)).setCell ⟨z2, 2, none⟩ (.slice none 0 0)) := fun X hX _ => ext3 (HX0.out.trans hX) (by have := HZ.out; omega) _ _ _
  have HBAD := Lib.hid hbad
  clear hbad
  cases r1 with
  | false =>
    have HE := Lib.hid (show addE b e v t = 5 by rw [HER.out, if_neg hge, if_pos (.inl rfl)])
    go_wp2_with (first | (go_at_call_of 82 (Value.int IntKind.i64 e); refine (HW1.out _).mono ?_; rintro z9 w2 ⟨rfl, rfl⟩))
    have hs := st3 (HC.out _ HX1.out).2.2 (.int .i64 0) (.int .i64 0) (.slice none 0 0)
    have q0 := cell_of hs (i := 0) rfl
    have q1 := cell_of hs (i := 1) rfl
    have q2 := cell_of hs (i := 2) rfl
    refine bodyPost_ret (v := .tuple #[.agg #[.int .i64 0, .int .i64 0, .slice none 0 0], .int .i64 5]) (by simp [results, Tryz.results37, go_sem, q0, q1, q2]) rfl ?_
    exact ⟨HBAD.out _ HX1.out HE.out, .inl ⟨by rw [HE.out]; decide, by rw [HE.out]⟩⟩
  | true =>
    cases r2 with
    | false =>
      have HE := Lib.hid (show addE b e v t = 5 by rw [HER.out, if_neg hge, if_pos (.inr rfl)])
      go_wp2_with (first | (go_at_call_of 82 (Value.int IntKind.i64 e); refine (HW1.out _).mono ?_; rintro z9 w2 ⟨rfl, rfl⟩) | (go_at_call_of 82 (Value.int IntKind.i64 v); refine (HW2.out _).mono ?_; rintro z9 w2 ⟨rfl, rfl⟩))
      have hs := st3 (HC.out _ HX1.out).2.2 (.int .i64 0) (.int .i64 0) (.slice none 0 0)
      have q0 := cell_of hs (i := 0) rfl
      have q1 := cell_of hs (i := 1) rfl
      have q2 := cell_of hs (i := 2) rfl
      refine bodyPost_ret (v := .tuple #[.agg #[.int .i64 0, .int .i64 0, .slice none 0 0], .int .i64 5]) (by simp [results, Tryz.results37, go_sem, q0, q1, q2]) rfl ?_
      exact ⟨HBAD.out _ HX1.out HE.out, .inl ⟨by rw [HE.out]; decide, by rw [HE.out]⟩⟩
    | true =>
      have HE := Lib.hid (show addE b e v t = if 16384 < np then 2 else 0 by rw [HER.out, if_neg hge, if_neg (by simp)])
      clear HBAD HER k0 k1 k2 j0 j1 j2
      go_upto_if 24 with (first | (go_at_call_of 82 (Value.int IntKind.i64 e); refine (HW1.out _).mono ?_; rintro z9 w2 ⟨rfl, rfl⟩) | (go_at_call_of 82 (Value.int IntKind.i64 v); refine (HW2.out _).mono ?_; rintro z9 w2 ⟨rfl, rfl⟩))
      clear HW1 HW2
      have hc0 := (HC.out w1 HX1.out).1
      have hc1 := (HC.out w1 HX1.out).2.1
      have a0 := cell_of hc0 (i := 0) (u := .int .i64 b.ms) rfl
      have a1 := cell_of hc0 (i := 1) (u := .int .i64 b.ht) rfl
      have a2 := cell_of hc0 (i := 2) (u := .slice A N c) rfl
      have b0 := cell_of hc1 (i := 0) (u := .slice A3 n3 c3) rfl
      have b1 := cell_of hc1 (i := 1) (u := .slice A4 n4 c4) rfl
      clear hc0 hc1
      go_upto_if 30 with (first | (go_at_call 83; refine (HWR.out _ (HX0.out.trans HX1.out)).mono ?_; rintro z9 w2 ⟨rfl, hx2⟩))
      have HX2 := Lib.hid (HX1.out.trans hx2)
      have hc0 := (HC.out w2 HX2.out).1
      have a0 := cell_of hc0 (i := 0) (u := .int .i64 b.ms) rfl
      have a1 := cell_of hc0 (i := 1) (u := .int .i64 b.ht) rfl
      have a2 := cell_of hc0 (i := 2) (u := .slice A N c) rfl
      clear hc0 hx2 HWR HX1 b0 b1
      go_upto_region 9 with (first | (go_at_call 76; refine (HCL.out _ (HX0.out.trans HX2.out)).mono ?_; rintro z9 w3 ⟨g, rfl, hbk, hx3⟩))
      obtain ⟨w5, hw5⟩ : ∃ w5, w3.alloc (.cells #[.int .i64 b.ms, .int .i64 b.ht, .slice (some ⟨g, 0, none⟩) N N] 27) = w5 := ⟨_, rfl⟩
      obtain ⟨zb, hzb⟩ : ∃ z, w3.heap.size = z := ⟨_, rfl⟩
      have hx5 : Ext w3 w5 := by rw [← hw5]; exact (Ext.refl w3).alloc _
      have hB5 : w5.heap[zb]? = some (.cells #[.int .i64 b.ms, .int .i64 b.ht, .slice (some ⟨g, 0, none⟩) N N] 27 (0, 0)) := by rw [← hw5, ← hzb]; exact heap_alloc_at _ _ _ _ rfl
      rw [hw5, hzb]
      have hgl : g < zb := by obtain ⟨ds, _, h1, _⟩ := hbk; have := lt_of_block h1; omega
      have h5s : w5.heap.size = zb + 1 := by rw [← hw5, World.size_alloc, hzb]
      have HOW := Lib.hid (Lay.own_ext (Lay.own_mono (P' := fun q => g < q ∧ q ≠ zb) (hbk.own HN.out (by omega)) (fun q hq hl => ⟨hq, by omega⟩)) hx5)
      have HG := Lib.hid (show w.heap.size ≤ g ∧ w2.heap.size ≤ g from by
        obtain ⟨ds, h0, _⟩ := hbk
        have := (HX0.out.trans HX2.out).lt
        exact ⟨by omega, h0⟩)
      have HX5 := Lib.hid (HX2.out.trans (hx3.trans hx5))
      have HX25 := Lib.hid (hx3.trans hx5)
      have HB5 := Lib.hid hB5
      have HZB := Lib.hid (show g < zb ∧ w5.heap.size = zb + 1 ∧ w2.heap.size ≤ w5.heap.size from ⟨hgl, h5s, (hx3.trans hx5).lt⟩)
      have HQ := Lib.hid (fun X (hX : Ext w5 X) => (show X.cell? ⟨zb, 2, none⟩ = some (.slice (some ⟨g, 0, none⟩) N N) ∧ X.cell? ⟨z1, 0, none⟩ = some (.slice A3 n3 c3) ∧ X.cell? ⟨z1, 1, none⟩ = some (.slice A4 n4 c4) from
        have h1 := (HC.out X (HX5.out.trans hX)).2.1
        ⟨cell_of ((hX.block _ (lt_of_block HB5.out)).trans HB5.out) (i := 2) rfl, cell_of h1 (i := 0) rfl, cell_of h1 (i := 1) rfl⟩))
      clear hw5 hzb hx5 hB5 hgl h5s hbk hx3 a0 a1 a2 HCL
      have HZ1 := Lib.hid (show z1 < w.heap.size + 3 by have := HZ.out; omega)
      have HFIN := Lib.hid (fun (X : World) (hX : Ext w5 X) (A9 : Option Addr) (c9 : Nat) (w9 : World) (ho9 : kSe.own 46 w9 w2.heap.size (fun q => g < q ∧ q ≠ zb) (.slice A9 (N + 1) c9) (b.secs ++ [⟨e, false, [v], [t]⟩])) (hb9 : ∀ B, B ≤ w2.heap.size → Below B X w9) (hk9 : ∀ j, j < X.heap.size → j ≠ g → w9.heap[j]? = X.heap[j]?) (hn9 : ∀ j, (Value.slice A9 (N + 1) c9).ownBlock = some j → j = g ∨ X.heap.size ≤ j) =>
        (show AdC w w2 zb (N + 1) b.ms b.ht (b.secs ++ [⟨e, false, [v], [t]⟩]) ((w9.setCell ⟨zb, 2, none⟩ (.slice A9 (N + 1) c9))) by
          have hzX : zb < X.heap.size := Nat.lt_of_lt_of_le (lt_of_block HB5.out) hX.lt
          have h1 : w9.heap[zb]? = some (.cells #[.int .i64 b.ms, .int .i64 b.ht, .slice (some ⟨g, 0, none⟩) N N] 27 (0, 0)) := (hk9 zb hzX (by have := HZB.out.1; omega)).trans ((hX.block _ (lt_of_block HB5.out)).trans HB5.out)
          have hw2 := (HX0.out.trans HX2.out).lt
          have hzz := HZB.out
          have hgg := HG.out
          have hlt := Lay.own_lt ho9
          refine ⟨fun j hj => (heap_setCell_other _ ⟨zb, 2, none⟩ j _ (by show j ≠ zb; omega)).trans ((hk9 j (by have := hX.lt; omega) (by omega)).trans ((hX.block j (by omega)).trans (HX25.out.block j hj))), A9, c9, heap_setCell_same _ zb 2 _ 27 _ h1, ?_, ?_, ?_⟩
          · obtain ⟨A8, c8, e8, h8, _⟩ := Lay.own_row ho9
            obtain ⟨_, e2, e3⟩ := Value.slice.inj e8
            rw [e2, e3]; exact h8
          · have hz0 := HZ.out
            have ho10 := Lay.own_keep (W' := w9.setCell ⟨zb, 2, none⟩ (.slice A9 (N + 1) c9)) ho9 (by simp) (fun j hj _ => heap_setCell_other _ ⟨zb, 2, none⟩ j _ (by
              rcases hj with hj | hj
              · exact hj.2
              · intro e9
                have := hn9 j hj
                have e9' : j = zb := e9
                omega))
            obtain ⟨A8, c8, e8, _, h8⟩ := Lay.own_row ho10
            obtain ⟨e1, e2, _⟩ := Value.slice.inj e8
            rw [← e1, ← e2] at h8
            exact Lay.row_mono h8 fun j hj _ => by
              rcases hj with hj | hj
              · omega
              · have := hlt j hj; omega
          · exact Ext.setCell (p := ⟨zb, 2, none⟩) (Below.trans ((HX0.out.trans HX5.out).trans hX) (hb9 w.heap.size hw2)) (by show w.heap.size ≤ zb; omega) _))
      have HTX5 := Lib.hid (fun X (hX : Ext w5 X) => HTX.out X ((HX0.out.trans HX5.out).trans hX))
      have HAPP := Lib.hid (fun X (hX : Ext w5 X) (gv gt : Nat) (A7 A8 : Option Addr) (n7 c7 n8 c8 : Nat) h1 h2 h3 h4 h5 h6 h7 h8 => sec_app (R := fun q => g < q ∧ q ≠ zb) (e := e) (v := v) (t := t) (gv := gv) (gt := gt) (A7 := A7) (A8 := A8) (n7 := n7) (c7 := c7) (n8 := n8) (c8 := c8) (fun j hj => by have := HZB.out; omega) HOW.out HN.out (by omega) HZB.out.2.2 (by have := HZB.out; omega) hX h1 h2 h3 h4 h5 h6 h7 h8)
      have HS9 := Lib.hid (fun X (hX : Ext w5 X) (w9 : World) (hk9 : ∀ j, j < X.heap.size → j ≠ g → w9.heap[j]? = X.heap[j]?) => (show w9.cell? ⟨zb, 2, none⟩ = some (.slice (some ⟨g, 0, none⟩) N N) ∧ w9.cell? ⟨z1, 0, none⟩ = some (.slice A3 n3 c3) ∧ w9.cell? ⟨z1, 1, none⟩ = some (.slice A4 n4 c4) by
        have h1 := (HC.out X (HX5.out.trans hX)).2.1
        have h2 := (hX.block _ (lt_of_block HB5.out)).trans HB5.out
        have l1 := lt_of_block h1
        have l2 := lt_of_block h2
        have hzz := HZB.out
        have hgg := HG.out
        have hz0 := HZ.out
        have hxx := HX0.out.lt
        have n1 : z1 ≠ g := by
          have := lt_of_block (HC.out w2 HX2.out).2.1
          omega
        have e1 := (hk9 z1 l1 n1).trans h1
        have e2 := (hk9 zb l2 (by omega)).trans h2
        exact ⟨cell_of e2 (i := 2) rfl, cell_of e1 (i := 0) rfl, cell_of e1 (i := 1) rfl⟩))
      have HTXa := Lib.hid (show Calls Tryz.prog 84 #[.agg #[.slice A3 n3 c3, .slice A4 n4 c4]] w5.drew (fun e w' => ∃ v, e = .returned v ∧ TxV w' (fun j => w5.drew.heap.size ≤ j) t v ∧ Ext w5.drew w') from HTX5.out _ (Ext.refl _).drew)
      have HTXb := Lib.hid (show Calls Tryz.prog 84 #[.agg #[.slice A3 n3 c3, .slice A4 n4 c4]] (w5.alloc (.cells #[.int .i64 v] 3)).drew (fun e w' => ∃ v', e = .returned v' ∧ TxV w' (fun j => (w5.alloc (.cells #[.int .i64 v] 3)).drew.heap.size ≤ j) t v' ∧ Ext (w5.alloc (.cells #[.int .i64 v] 3)).drew w') from HTX5.out _ ((Ext.refl _).alloc _).drew)
      have HAP1 := Lib.hid (fun (wG : World) (hxG : Ext ((w5.alloc (.cells #[.int .i64 v] 3)).drew) wG) (A7 A8 : Option Addr) (n7 c7 n8 c8 : Nat) (h7 : n7 ≤ c7) (h8 : n8 ≤ c8) (hr7 : kWs.row wG (fun j => ((w5.alloc (.cells #[.int .i64 v] 3)).drew).heap.size ≤ j) A7 n7 t.paras) (hr8 : kWs.row wG (fun j => ((w5.alloc (.cells #[.int .i64 v] 3)).drew).heap.size ≤ j) A8 n8 t.notes) =>
        (show ∃ A9 c9 w9, (Builtin.append_ #[25, 25] 25 #[.slice (some ⟨g, 0, none⟩) N N, .slice (some ⟨wG.heap.size + 1, 0, none⟩) 1 1]).run Tryz.prog ((wG.alloc (.cells #[.slice A7 n7 c7, .slice A8 n8 c8] 53)).alloc (.cells #[.int .i64 e, .bool false, .slice (some ⟨w5.heap.size, 0, none⟩) 1 1, .slice (some ⟨wG.heap.size, 0, none⟩) 1 1] 46)) = .ok (.slice A9 (N + 1) c9) w9 ∧ AdC w w2 zb (N + 1) b.ms b.ht (b.secs ++ [⟨e, false, [v], [t]⟩]) (w9.setCell ⟨zb, 2, none⟩ (.slice A9 (N + 1) c9)) ∧
            (w9.cell? ⟨zb, 2, none⟩ = some (.slice (some ⟨g, 0, none⟩) N N) ∧ w9.cell? ⟨z1, 0, none⟩ = some (.slice A3 n3 c3) ∧ w9.cell? ⟨z1, 1, none⟩ = some (.slice A4 n4 c4)) ∧ w9.frozen? ⟨zb, 2, none⟩ = false by
          have hX : Ext w5 (wG.alloc (.cells #[.slice A7 n7 c7, .slice A8 n8 c8] 53)) := (((Ext.refl _).alloc _).drew.trans hxG).alloc _
          have hs5 : w5.drew.heap.size = w5.heap.size := rfl
          have hsx := hxG.lt
          obtain ⟨A9, c9, w9, hrun, ho9, hb9, hk9, hs9, hn9⟩ := HAPP.out (wG.alloc (.cells #[.slice A7 n7 c7, .slice A8 n8 c8] 53)) hX w5.heap.size wG.heap.size A7 A8 n7 c7 n8 c8 ((heap_alloc_old _ _ _ (by simp at hsx; omega)).trans ((hxG.block _ (by simp)).trans (heap_alloc_at w5 _ _ _ rfl))) (Nat.le_refl _) (heap_alloc_at _ _ _ _ rfl) (by simp at hsx; omega) h7 h8
            (Lay.row_mono (Lay.row_ext hr7 ((Ext.refl _).alloc _)) fun j hj _ => by simp at hj; omega) (Lay.row_mono (Lay.row_ext hr8 ((Ext.refl _).alloc _)) fun j hj _ => by simp at hj; omega)
          rw [show (wG.alloc (.cells #[.slice A7 n7 c7, .slice A8 n8 c8] 53)).heap.size = wG.heap.size + 1 by simp] at hrun
          have hzX : zb < (wG.alloc (.cells #[.slice A7 n7 c7, .slice A8 n8 c8] 53)).heap.size := Nat.lt_of_lt_of_le (lt_of_block HB5.out) hX.lt
          have h1 : w9.heap[zb]? = some (.cells #[.int .i64 b.ms, .int .i64 b.ht, .slice (some ⟨g, 0, none⟩) N N] 27 (0, 0)) := (hk9 zb hzX (by have := HZB.out.1; omega)).trans ((hX.block _ (lt_of_block HB5.out)).trans HB5.out)
          exact ⟨A9, c9, w9, hrun, HFIN.out _ hX A9 c9 w9 ho9 hb9 hk9 hn9, HS9.out _ hX w9 hk9, frozen_of h1 2⟩))
      have HAP2 := Lib.hid (fun (wG : World) (hxG : Ext w5.drew wG) (A7 A8 : Option Addr) (n7 c7 n8 c8 : Nat) (h7 : n7 ≤ c7) (h8 : n8 ≤ c8) (hr7 : kWs.row wG (fun j => w5.drew.heap.size ≤ j) A7 n7 t.paras) (hr8 : kWs.row wG (fun j => w5.drew.heap.size ≤ j) A8 n8 t.notes) =>
        (show ∃ A9 c9 w9, (Builtin.append_ #[25, 25] 25 #[.slice (some ⟨g, 0, none⟩) N N, .slice (some ⟨wG.heap.size + 1 + 1, 0, none⟩) 1 1]).run Tryz.prog (((wG.alloc (.cells #[.int .i64 v] 3)).alloc (.cells #[.slice A7 n7 c7, .slice A8 n8 c8] 53)).alloc (.cells #[.int .i64 e, .bool false, .slice (some ⟨wG.heap.size, 0, none⟩) 1 1, .slice (some ⟨(wG.heap.size + 1), 0, none⟩) 1 1] 46)) = .ok (.slice A9 (N + 1) c9) w9 ∧ AdC w w2 zb (N + 1) b.ms b.ht (b.secs ++ [⟨e, false, [v], [t]⟩]) (w9.setCell ⟨zb, 2, none⟩ (.slice A9 (N + 1) c9)) ∧
            (w9.cell? ⟨zb, 2, none⟩ = some (.slice (some ⟨g, 0, none⟩) N N) ∧ w9.cell? ⟨z1, 0, none⟩ = some (.slice A3 n3 c3) ∧ w9.cell? ⟨z1, 1, none⟩ = some (.slice A4 n4 c4)) ∧ w9.frozen? ⟨zb, 2, none⟩ = false by
          have hX : Ext w5 ((wG.alloc (.cells #[.int .i64 v] 3)).alloc (.cells #[.slice A7 n7 c7, .slice A8 n8 c8] 53)) := (((Ext.refl _).drew.trans hxG).alloc _).alloc _
          have hs5 : w5.drew.heap.size = w5.heap.size := rfl
          have hsx := hxG.lt
          obtain ⟨A9, c9, w9, hrun, ho9, hb9, hk9, hs9, hn9⟩ := HAPP.out ((wG.alloc (.cells #[.int .i64 v] 3)).alloc (.cells #[.slice A7 n7 c7, .slice A8 n8 c8] 53)) hX wG.heap.size (wG.heap.size + 1) A7 A8 n7 c7 n8 c8 ((heap_alloc_old _ _ _ (by simp)).trans (heap_alloc_at _ _ _ _ rfl)) (by omega) (heap_alloc_at _ _ _ _ (by simp)) (by omega) h7 h8
            (Lay.row_mono (Lay.row_ext hr7 (((Ext.refl _).alloc _).alloc _)) fun j hj _ => by simp at hj; omega) (Lay.row_mono (Lay.row_ext hr8 (((Ext.refl _).alloc _).alloc _)) fun j hj _ => by simp at hj; omega)
          rw [show ((wG.alloc (.cells #[.int .i64 v] 3)).alloc (.cells #[.slice A7 n7 c7, .slice A8 n8 c8] 53)).heap.size = wG.heap.size + 1 + 1 by simp] at hrun
          have hzX : zb < ((wG.alloc (.cells #[.int .i64 v] 3)).alloc (.cells #[.slice A7 n7 c7, .slice A8 n8 c8] 53)).heap.size := Nat.lt_of_lt_of_le (lt_of_block HB5.out) hX.lt
          have h1 : w9.heap[zb]? = some (.cells #[.int .i64 b.ms, .int .i64 b.ht, .slice (some ⟨g, 0, none⟩) N N] 27 (0, 0)) := (hk9 zb hzX (by have := HZB.out.1; omega)).trans ((hX.block _ (lt_of_block HB5.out)).trans HB5.out)
          exact ⟨A9, c9, w9, hrun, HFIN.out _ hX A9 c9 w9 ho9 hb9 hk9 hn9, HS9.out _ hX w9 hk9, frozen_of h1 2⟩))
      have HAP3 := Lib.hid (fun (wG : World) (hxG : Ext w5.drew wG) (A7 A8 : Option Addr) (n7 c7 n8 c8 : Nat) (h7 : n7 ≤ c7) (h8 : n8 ≤ c8) (hr7 : kWs.row wG (fun j => w5.drew.heap.size ≤ j) A7 n7 t.paras) (hr8 : kWs.row wG (fun j => w5.drew.heap.size ≤ j) A8 n8 t.notes) =>
        (show ∃ A9 c9 w9, (Builtin.append_ #[25, 25] 25 #[.slice (some ⟨g, 0, none⟩) N N, .slice (some ⟨wG.heap.size + 1 + 1, 0, none⟩) 1 1]).run Tryz.prog (((wG.alloc (.cells #[.slice A7 n7 c7, .slice A8 n8 c8] 53)).alloc (.cells #[.int .i64 v] 3)).alloc (.cells #[.int .i64 e, .bool false, .slice (some ⟨(wG.heap.size + 1), 0, none⟩) 1 1, .slice (some ⟨wG.heap.size, 0, none⟩) 1 1] 46)) = .ok (.slice A9 (N + 1) c9) w9 ∧ AdC w w2 zb (N + 1) b.ms b.ht (b.secs ++ [⟨e, false, [v], [t]⟩]) (w9.setCell ⟨zb, 2, none⟩ (.slice A9 (N + 1) c9)) ∧
            (w9.cell? ⟨zb, 2, none⟩ = some (.slice (some ⟨g, 0, none⟩) N N) ∧ w9.cell? ⟨z1, 0, none⟩ = some (.slice A3 n3 c3) ∧ w9.cell? ⟨z1, 1, none⟩ = some (.slice A4 n4 c4)) ∧ w9.frozen? ⟨zb, 2, none⟩ = false by
          have hX : Ext w5 ((wG.alloc (.cells #[.slice A7 n7 c7, .slice A8 n8 c8] 53)).alloc (.cells #[.int .i64 v] 3)) := (((Ext.refl _).drew.trans hxG).alloc _).alloc _
          have hs5 : w5.drew.heap.size = w5.heap.size := rfl
          have hsx := hxG.lt
          obtain ⟨A9, c9, w9, hrun, ho9, hb9, hk9, hs9, hn9⟩ := HAPP.out ((wG.alloc (.cells #[.slice A7 n7 c7, .slice A8 n8 c8] 53)).alloc (.cells #[.int .i64 v] 3)) hX (wG.heap.size + 1) wG.heap.size A7 A8 n7 c7 n8 c8 (heap_alloc_at _ _ _ _ (by simp)) (by omega) ((heap_alloc_old _ _ _ (by simp)).trans (heap_alloc_at _ _ _ _ rfl)) (by omega) h7 h8
            (Lay.row_mono (Lay.row_ext hr7 (((Ext.refl _).alloc _).alloc _)) fun j hj _ => by simp at hj; omega) (Lay.row_mono (Lay.row_ext hr8 (((Ext.refl _).alloc _).alloc _)) fun j hj _ => by simp at hj; omega)
          rw [show ((wG.alloc (.cells #[.slice A7 n7 c7, .slice A8 n8 c8] 53)).alloc (.cells #[.int .i64 v] 3)).heap.size = wG.heap.size + 1 + 1 by simp] at hrun
          have hzX : zb < ((wG.alloc (.cells #[.slice A7 n7 c7, .slice A8 n8 c8] 53)).alloc (.cells #[.int .i64 v] 3)).heap.size := Nat.lt_of_lt_of_le (lt_of_block HB5.out) hX.lt
          have h1 : w9.heap[zb]? = some (.cells #[.int .i64 b.ms, .int .i64 b.ht, .slice (some ⟨g, 0, none⟩) N N] 27 (0, 0)) := (hk9 zb hzX (by have := HZB.out.1; omega)).trans ((hX.block _ (lt_of_block HB5.out)).trans HB5.out)
          exact ⟨A9, c9, w9, hrun, HFIN.out _ hX A9 c9 w9 ho9 hb9 hk9 hn9, HS9.out _ hX w9 hk9, frozen_of h1 2⟩))
      clear HAPP HFIN HS9 HTX5
      go_cut [45] (fun _ wx => AdC w w2 zb (N + 1) b.ms b.ht (b.secs ++ [⟨e, false, [v], [t]⟩]) wx)
      case first =>
        have hS0 : (fun X : World => X.cell? ⟨zb, 2, none⟩ = some (.slice (some ⟨g, 0, none⟩) N N) ∧ X.cell? ⟨z1, 0, none⟩ = some (.slice A3 n3 c3) ∧ X.cell? ⟨z1, 1, none⟩ = some (.slice A4 n4 c4)) w5.drew := HQ.out _ (Ext.refl _).drew
        refine wp_region_E (fun X : World => X.cell? ⟨zb, 2, none⟩ = some (.slice (some ⟨g, 0, none⟩) N N) ∧ X.cell? ⟨z1, 0, none⟩ = some (.slice A3 n3 c3) ∧ X.cell? ⟨z1, 1, none⟩ = some (.slice A4 n4 c4)) (fun _ => True) (fun i => i == 12) (by kernel_rfl) ?_
        refine wpE_takeS (i := 0) (d := some 35) (v := .pointer (some ⟨zb, 2, none⟩)) rfl rfl (by kernel_rfl) (by kernel_rfl) (by kernel_rfl) (by kernel_rfl) (fun _ _ _ h => h) (by rfl) ?hy1 hS0 trivial ?go1
        case hy1 =>
          intro w9 hT9
          clear hT9; go_simp
        (try simp only [Act.put, List.setIfInBounds_toArray, List.set_cons_zero, List.set_cons_succ])
        refine wpE_takeS (i := 1) (d := some 36) (v := .slice (some ⟨g, 0, none⟩) N N) rfl rfl (by kernel_rfl) (by kernel_rfl) (by kernel_rfl) (by kernel_rfl) (fun _ _ _ h => h) (by rfl) ?hy2 hS0 trivial ?go2
        case hy2 =>
          intro w9 hT9
          obtain ⟨y0, y1, y2⟩ := hT9; go_simp
        (try simp only [Act.put, List.setIfInBounds_toArray, List.set_cons_zero, List.set_cons_succ])
        refine wpE_takeS (i := 2) (d := some 37) (v := .int .i64 e) rfl rfl (by kernel_rfl) (by kernel_rfl) (by kernel_rfl) (by kernel_rfl) (fun _ _ _ h => h) (by rfl) ?hy3 hS0 trivial ?go3
        case hy3 =>
          intro w9 hT9
          clear hT9; go_simp
        (try simp only [Act.put, List.setIfInBounds_toArray, List.set_cons_zero, List.set_cons_succ])
        refine wpE_takeS (i := 3) (d := some 38) (v := .int .i64 v) rfl rfl (by kernel_rfl) (by kernel_rfl) (by kernel_rfl) (by kernel_rfl) (fun _ _ _ h => h) (by rfl) ?hy4 hS0 trivial ?go4
        case hy4 =>
          intro w9 hT9
          clear hT9; go_simp
        (try simp only [Act.put, List.setIfInBounds_toArray, List.set_cons_zero, List.set_cons_succ])
        refine wpE_takeS (i := 5) (d := some 40) (v := .agg #[.slice A3 n3 c3, .slice A4 n4 c4]) rfl rfl (by kernel_rfl) (by kernel_rfl) (by kernel_rfl) (by kernel_rfl) (fun _ _ _ h => h) (by rfl) ?hy5 hS0 trivial ?go5
        case hy5 =>
          intro w9 hT9
          obtain ⟨y0, y1, y2⟩ := hT9; go_simp
        (try simp only [Act.put, List.setIfInBounds_toArray, List.set_cons_zero, List.set_cons_succ])
        refine wpE_all (rs := [4, 6]) (by kernel_rfl) (by simp) ?_
        refine AllE.cons rfl (fun K hK => ?_) (AllE.cons rfl (fun K hK => ?_) AllE.nil)
        · skip
          simp only [List.getElem_toArray, List.getElem_cons_succ, List.getElem_cons_zero]
          go_simp
          refine hK.out _ _ ⟨fun _ => (HQ.out _ ((Ext.refl w5).alloc (.cells #[.int .i64 v] 3)).drew), trivial⟩ (fun _ => ?_)
          clear hK K
          have hS0 := (HQ.out _ ((Ext.refl w5).alloc (.cells #[.int .i64 v] 3)).drew)
          (try simp only [Act.put, List.setIfInBounds_toArray, List.set_cons_zero, List.set_cons_succ])
          refine wpE_all (rs := [6]) (by kernel_rfl) (by simp) ?_
          refine AllE.cons rfl (fun K hK => ?_) AllE.nil
          simp only [List.getElem_toArray, List.getElem_cons_succ, List.getElem_cons_zero]
          go_simp
          go_at_call 84
          refine (HTXb.out).mono ?_
          rintro z9 wG ⟨_, rfl, ⟨A7, n7, c7, A8, n8, c8, rfl, h7, h8, hr7, hr8⟩, hxG⟩
          have hcur : Ext w5 wG := ((Ext.refl _).alloc _).drew.trans hxG
          simp only []
          refine hK.out _ _ ⟨fun _ => (HQ.out _ hcur), trivial⟩ (fun _ => ?_)
          clear hK K
          have hS0 := (HQ.out _ hcur)
          (try simp only [Act.put, List.setIfInBounds_toArray, List.set_cons_zero, List.set_cons_succ])
          refine wpE_all (rs := [7]) (by kernel_rfl) (by simp) ?_
          refine AllE.cons rfl (fun K hK => ?_) AllE.nil
          simp only [List.getElem_toArray, List.getElem_cons_succ, List.getElem_cons_zero]
          go_simp
          refine hK.out _ _ ⟨fun _ => (HQ.out _ (hcur.alloc (.cells #[.slice A7 n7 c7, .slice A8 n8 c8] 53))), trivial⟩ (fun _ => ?_)
          clear hK K
          have hS0 := (HQ.out _ (hcur.alloc (.cells #[.slice A7 n7 c7, .slice A8 n8 c8] 53)))
          (try simp only [Act.put, List.setIfInBounds_toArray, List.set_cons_zero, List.set_cons_succ])
          refine wpE_takeS (i := 8) (d := some 43) (v := .agg #[.int .i64 e, .bool false, .slice (some ⟨w5.heap.size, 0, none⟩) 1 1, .slice (some ⟨wG.heap.size, 0, none⟩) 1 1]) rfl rfl (by kernel_rfl) (by kernel_rfl) (by kernel_rfl) (by kernel_rfl) (fun _ _ _ h => h) (by rfl) ?hy6 hS0 trivial ?go6
          case hy6 =>
            intro w9 hT9
            clear hT9; go_simp
          (try simp only [Act.put, List.setIfInBounds_toArray, List.set_cons_zero, List.set_cons_succ])
          refine wpE_all (rs := [9]) (by kernel_rfl) (by simp) ?_
          refine AllE.cons rfl (fun K hK => ?_) AllE.nil
          simp only [List.getElem_toArray, List.getElem_cons_succ, List.getElem_cons_zero]
          go_simp
          refine hK.out _ _ ⟨fun _ => (HQ.out _ ((hcur.alloc (.cells #[.slice A7 n7 c7, .slice A8 n8 c8] 53)).alloc (.cells #[.int .i64 e, .bool false, .slice (some ⟨w5.heap.size, 0, none⟩) 1 1, .slice (some ⟨wG.heap.size, 0, none⟩) 1 1] 46))), trivial⟩ (fun _ => ?_)
          clear hK K
          have hS0 := (HQ.out _ ((hcur.alloc (.cells #[.slice A7 n7 c7, .slice A8 n8 c8] 53)).alloc (.cells #[.int .i64 e, .bool false, .slice (some ⟨w5.heap.size, 0, none⟩) 1 1, .slice (some ⟨wG.heap.size, 0, none⟩) 1 1] 46)))
          (try simp only [Act.put, List.setIfInBounds_toArray, List.set_cons_zero, List.set_cons_succ])
          refine wpE_all (rs := [10]) (by kernel_rfl) (by simp) ?_
          refine AllE.cons rfl (fun K hK => ?_) AllE.nil
          simp only [List.getElem_toArray, List.getElem_cons_succ, List.getElem_cons_zero]
          obtain ⟨A9, c9, w9, hrun, hrel, HS, hf9⟩ := HAP1.out wG hxG A7 A8 n7 c7 n8 c8 h7 h8 hr7 hr8
          have HREL := Lib.hid hrel
          clear hrel
          refine step_append_tm (s := .tmp 36) (x := .tmp 44) hrun rfl rfl rfl rfl rfl ?_
          refine hK.out _ _ ⟨fun _ => HS, trivial⟩ (fun _ => ?_)
          clear hK K
          have hS0 := HS
          (try simp only [Act.put, List.setIfInBounds_toArray, List.set_cons_zero, List.set_cons_succ])
          refine wpE_takeS (i := 11) (d := some 46) (v := .pointer (some ⟨zb, 2, none⟩)) rfl rfl (by kernel_rfl) (by kernel_rfl) (by kernel_rfl) (by kernel_rfl) (fun _ _ _ h => h) (by rfl) ?hy7 hS0 trivial ?go7
          case hy7 =>
            intro w9 hT9
            clear hT9; go_simp
          (try simp only [Act.put, List.setIfInBounds_toArray, List.set_cons_zero, List.set_cons_succ])
          refine wpE_all (rs := [12]) (by kernel_rfl) (by simp) ?_
          refine AllE.cons rfl (fun K hK => ?_) AllE.nil
          simp only [List.getElem_toArray, List.getElem_cons_succ, List.getElem_cons_zero]
          have z5 := HS.1
          go_simp
          refine hK.out _ _ ⟨fun h => absurd h (by simp), trivial⟩ (fun _ => ?_)
          clear hK K
          (try simp only [Act.put, List.setIfInBounds_toArray, List.set_cons_zero, List.set_cons_succ])
          refine wpE_done (by kernel_rfl) ?_ _
          go_wp2_with fail
          go_meet
          case rel => exact HREL.out
        · skip
          simp only [List.getElem_toArray, List.getElem_cons_succ, List.getElem_cons_zero]
          go_simp
          go_at_call 84
          refine (HTXa.out).mono ?_
          rintro z9 wG ⟨_, rfl, ⟨A7, n7, c7, A8, n8, c8, rfl, h7, h8, hr7, hr8⟩, hxG⟩
          have hcur : Ext w5 wG := (Ext.refl _).drew.trans hxG
          simp only []
          refine hK.out _ _ ⟨fun _ => (HQ.out _ hcur), trivial⟩ (fun _ => ?_)
          clear hK K
          have hS0 := (HQ.out _ hcur)
          (try simp only [Act.put, List.setIfInBounds_toArray, List.set_cons_zero, List.set_cons_succ])
          refine wpE_all (rs := [4, 7]) (by kernel_rfl) (by simp) ?_
          refine AllE.cons rfl (fun K hK => ?_) (AllE.cons rfl (fun K hK => ?_) AllE.nil)
          · skip
            simp only [List.getElem_toArray, List.getElem_cons_succ, List.getElem_cons_zero]
            go_simp
            refine hK.out _ _ ⟨fun _ => (HQ.out _ (hcur.alloc (.cells #[.int .i64 v] 3))), trivial⟩ (fun _ => ?_)
            clear hK K
            have hS0 := (HQ.out _ (hcur.alloc (.cells #[.int .i64 v] 3)))
            (try simp only [Act.put, List.setIfInBounds_toArray, List.set_cons_zero, List.set_cons_succ])
            refine wpE_all (rs := [7]) (by kernel_rfl) (by simp) ?_
            refine AllE.cons rfl (fun K hK => ?_) AllE.nil
            simp only [List.getElem_toArray, List.getElem_cons_succ, List.getElem_cons_zero]
            go_simp
            refine hK.out _ _ ⟨fun _ => (HQ.out _ ((hcur.alloc (.cells #[.int .i64 v] 3)).alloc (.cells #[.slice A7 n7 c7, .slice A8 n8 c8] 53))), trivial⟩ (fun _ => ?_)
            clear hK K
            have hS0 := (HQ.out _ ((hcur.alloc (.cells #[.int .i64 v] 3)).alloc (.cells #[.slice A7 n7 c7, .slice A8 n8 c8] 53)))
            (try simp only [Act.put, List.setIfInBounds_toArray, List.set_cons_zero, List.set_cons_succ])
            refine wpE_takeS (i := 8) (d := some 43) (v := .agg #[.int .i64 e, .bool false, .slice (some ⟨wG.heap.size, 0, none⟩) 1 1, .slice (some ⟨wG.heap.size + 1, 0, none⟩) 1 1]) rfl rfl (by kernel_rfl) (by kernel_rfl) (by kernel_rfl) (by kernel_rfl) (fun _ _ _ h => h) (by rfl) ?hy8 hS0 trivial ?go8
            case hy8 =>
              intro w9 hT9
              clear hT9; go_simp
            (try simp only [Act.put, List.setIfInBounds_toArray, List.set_cons_zero, List.set_cons_succ])
            refine wpE_all (rs := [9]) (by kernel_rfl) (by simp) ?_
            refine AllE.cons rfl (fun K hK => ?_) AllE.nil
            simp only [List.getElem_toArray, List.getElem_cons_succ, List.getElem_cons_zero]
            go_simp
            refine hK.out _ _ ⟨fun _ => (HQ.out _ (((hcur.alloc (.cells #[.int .i64 v] 3)).alloc (.cells #[.slice A7 n7 c7, .slice A8 n8 c8] 53)).alloc (.cells #[.int .i64 e, .bool false, .slice (some ⟨wG.heap.size, 0, none⟩) 1 1, .slice (some ⟨wG.heap.size + 1, 0, none⟩) 1 1] 46))), trivial⟩ (fun _ => ?_)
            clear hK K
            have hS0 := (HQ.out _ (((hcur.alloc (.cells #[.int .i64 v] 3)).alloc (.cells #[.slice A7 n7 c7, .slice A8 n8 c8] 53)).alloc (.cells #[.int .i64 e, .bool false, .slice (some ⟨wG.heap.size, 0, none⟩) 1 1, .slice (some ⟨wG.heap.size + 1, 0, none⟩) 1 1] 46)))
            (try simp only [Act.put, List.setIfInBounds_toArray, List.set_cons_zero, List.set_cons_succ])
            refine wpE_all (rs := [10]) (by kernel_rfl) (by simp) ?_
            refine AllE.cons rfl (fun K hK => ?_) AllE.nil
            simp only [List.getElem_toArray, List.getElem_cons_succ, List.getElem_cons_zero]
            obtain ⟨A9, c9, w9, hrun, hrel, HS, hf9⟩ := HAP2.out wG hxG A7 A8 n7 c7 n8 c8 h7 h8 hr7 hr8
            have HREL := Lib.hid hrel
            clear hrel
            refine step_append_tm (s := .tmp 36) (x := .tmp 44) hrun rfl rfl rfl rfl rfl ?_
            refine hK.out _ _ ⟨fun _ => HS, trivial⟩ (fun _ => ?_)
            clear hK K
            have hS0 := HS
            (try simp only [Act.put, List.setIfInBounds_toArray, List.set_cons_zero, List.set_cons_succ])
            refine wpE_takeS (i := 11) (d := some 46) (v := .pointer (some ⟨zb, 2, none⟩)) rfl rfl (by kernel_rfl) (by kernel_rfl) (by kernel_rfl) (by kernel_rfl) (fun _ _ _ h => h) (by rfl) ?hy9 hS0 trivial ?go9
            case hy9 =>
              intro w9 hT9
              clear hT9; go_simp
            (try simp only [Act.put, List.setIfInBounds_toArray, List.set_cons_zero, List.set_cons_succ])
            refine wpE_all (rs := [12]) (by kernel_rfl) (by simp) ?_
            refine AllE.cons rfl (fun K hK => ?_) AllE.nil
            simp only [List.getElem_toArray, List.getElem_cons_succ, List.getElem_cons_zero]
            have z5 := HS.1
            go_simp
            refine hK.out _ _ ⟨fun h => absurd h (by simp), trivial⟩ (fun _ => ?_)
            clear hK K
            (try simp only [Act.put, List.setIfInBounds_toArray, List.set_cons_zero, List.set_cons_succ])
            refine wpE_done (by kernel_rfl) ?_ _
            go_wp2_with fail
            go_meet
            case rel => exact HREL.out
          · skip
            simp only [List.getElem_toArray, List.getElem_cons_succ, List.getElem_cons_zero]
            go_simp
            refine hK.out _ _ ⟨fun _ => (HQ.out _ (hcur.alloc (.cells #[.slice A7 n7 c7, .slice A8 n8 c8] 53))), trivial⟩ (fun _ => ?_)
            clear hK K
            have hS0 := (HQ.out _ (hcur.alloc (.cells #[.slice A7 n7 c7, .slice A8 n8 c8] 53)))
            (try simp only [Act.put, List.setIfInBounds_toArray, List.set_cons_zero, List.set_cons_succ])
            refine wpE_all (rs := [4]) (by kernel_rfl) (by simp) ?_
            refine AllE.cons rfl (fun K hK => ?_) AllE.nil
            simp only [List.getElem_toArray, List.getElem_cons_succ, List.getElem_cons_zero]
            go_simp
            refine hK.out _ _ ⟨fun _ => (HQ.out _ ((hcur.alloc (.cells #[.slice A7 n7 c7, .slice A8 n8 c8] 53)).alloc (.cells #[.int .i64 v] 3))), trivial⟩ (fun _ => ?_)
            clear hK K
            have hS0 := (HQ.out _ ((hcur.alloc (.cells #[.slice A7 n7 c7, .slice A8 n8 c8] 53)).alloc (.cells #[.int .i64 v] 3)))
            (try simp only [Act.put, List.setIfInBounds_toArray, List.set_cons_zero, List.set_cons_succ])
            refine wpE_takeS (i := 8) (d := some 43) (v := .agg #[.int .i64 e, .bool false, .slice (some ⟨wG.heap.size + 1, 0, none⟩) 1 1, .slice (some ⟨wG.heap.size, 0, none⟩) 1 1]) rfl rfl (by kernel_rfl) (by kernel_rfl) (by kernel_rfl) (by kernel_rfl) (fun _ _ _ h => h) (by rfl) ?hy10 hS0 trivial ?go10
            case hy10 =>
              intro w9 hT9
              clear hT9; go_simp
            (try simp only [Act.put, List.setIfInBounds_toArray, List.set_cons_zero, List.set_cons_succ])
            refine wpE_all (rs := [9]) (by kernel_rfl) (by simp) ?_
            refine AllE.cons rfl (fun K hK => ?_) AllE.nil
            simp only [List.getElem_toArray, List.getElem_cons_succ, List.getElem_cons_zero]
            go_simp
            refine hK.out _ _ ⟨fun _ => (HQ.out _ (((hcur.alloc (.cells #[.slice A7 n7 c7, .slice A8 n8 c8] 53)).alloc (.cells #[.int .i64 v] 3)).alloc (.cells #[.int .i64 e, .bool false, .slice (some ⟨wG.heap.size + 1, 0, none⟩) 1 1, .slice (some ⟨wG.heap.size, 0, none⟩) 1 1] 46))), trivial⟩ (fun _ => ?_)
            clear hK K
            have hS0 := (HQ.out _ (((hcur.alloc (.cells #[.slice A7 n7 c7, .slice A8 n8 c8] 53)).alloc (.cells #[.int .i64 v] 3)).alloc (.cells #[.int .i64 e, .bool false, .slice (some ⟨wG.heap.size + 1, 0, none⟩) 1 1, .slice (some ⟨wG.heap.size, 0, none⟩) 1 1] 46)))
            (try simp only [Act.put, List.setIfInBounds_toArray, List.set_cons_zero, List.set_cons_succ])
            refine wpE_all (rs := [10]) (by kernel_rfl) (by simp) ?_
            refine AllE.cons rfl (fun K hK => ?_) AllE.nil
            simp only [List.getElem_toArray, List.getElem_cons_succ, List.getElem_cons_zero]
            obtain ⟨A9, c9, w9, hrun, hrel, HS, hf9⟩ := HAP3.out wG hxG A7 A8 n7 c7 n8 c8 h7 h8 hr7 hr8
            have HREL := Lib.hid hrel
            clear hrel
            refine step_append_tm (s := .tmp 36) (x := .tmp 44) hrun rfl rfl rfl rfl rfl ?_
            refine hK.out _ _ ⟨fun _ => HS, trivial⟩ (fun _ => ?_)
            clear hK K
            have hS0 := HS
            (try simp only [Act.put, List.setIfInBounds_toArray, List.set_cons_zero, List.set_cons_succ])
            refine wpE_takeS (i := 11) (d := some 46) (v := .pointer (some ⟨zb, 2, none⟩)) rfl rfl (by kernel_rfl) (by kernel_rfl) (by kernel_rfl) (by kernel_rfl) (fun _ _ _ h => h) (by rfl) ?hy11 hS0 trivial ?go11
            case hy11 =>
              intro w9 hT9
              clear hT9; go_simp
            (try simp only [Act.put, List.setIfInBounds_toArray, List.set_cons_zero, List.set_cons_succ])
            refine wpE_all (rs := [12]) (by kernel_rfl) (by simp) ?_
            refine AllE.cons rfl (fun K hK => ?_) AllE.nil
            simp only [List.getElem_toArray, List.getElem_cons_succ, List.getElem_cons_zero]
            have z5 := HS.1
            go_simp
            refine hK.out _ _ ⟨fun h => absurd h (by simp), trivial⟩ (fun _ => ?_)
            clear hK K
            (try simp only [Act.put, List.setIfInBounds_toArray, List.set_cons_zero, List.set_cons_succ])
            refine wpE_done (by kernel_rfl) ?_ _
            go_wp2_with fail
            go_meet
            case rel => exact HREL.out
      case rest =>
        obtain ⟨hk9, A9, c9, hb9, hc9, hr9, hx9⟩ := hcut
        have a0 := cell_of hb9 (i := 0) (u := .int .i64 b.ms) rfl
        have a1 := cell_of hb9 (i := 1) (u := .int .i64 b.ht) rfl
        have a2 := cell_of hb9 (i := 2) (u := .slice A9 (N + 1) c9) rfl
        have hR2 := (HC.out w2 HX2.out).2.2
        have HR9 := Lib.hid ((hk9 z2 (lt_of_block hR2)).trans hR2)
        have HX9 := Lib.hid hx9
        have hzl := lt_of_block hR2
        have hwl := (HX0.out.trans HX2.out).lt
        have HZL := Lib.hid (And.intro hzl hwl)
        have HRO := Lib.hid hr9
        clear hzl hwl hk9 hb9 hr9 hx9 hR2 HAP1 HAP2 HAP3 HTXa HTXb HTX HQ
        by_cases hc : 16384 < np
        · have HE0 := Lib.hid (show addE b e v t = 2 by rw [HE.out, if_pos hc])
          have HF := Lib.hid (show Calls Tryz.prog 85 #[.agg #[.int .i64 b.ms, .int .i64 b.ht, .slice A9 (N + 1) c9]] wc (fun z9 wf => Ext wc wf ∧ z9 = .returned (.tuple #[.agg #[.int .i64 0, .int .i64 0, .slice none 0 0], .int .i64 2])) from by
            refine (HFT.out _ HX9.out A9 c9 (Lay.row_mono HRO.out fun j hj _ => Nat.le_trans HZL.out.2 hj)).mono ?_
            rintro z9 wf ⟨hxf, (⟨hnp, rfl⟩ | ⟨hnp, rfl⟩)⟩
            · omega
            · exact ⟨hxf, rfl⟩)
          clear HFT
          go_wp2_with (first | (go_at_call 85; refine (HF.out).mono ?_; rintro z9 wf ⟨hxf, rfl⟩; have hRf := (hxf.block _ (lt_of_block HR9.out)).trans HR9.out; obtain ⟨k0, k1, k2, j0, j1, j2⟩ := BkR.of hRf; have HRF := Lib.hid hRf; clear hRf))
          have hs := st3 HRF.out (.int .i64 0) (.int .i64 0) (.slice none 0 0)
          have q0 := cell_of hs (i := 0) rfl
          have q1 := cell_of hs (i := 1) rfl
          have q2 := cell_of hs (i := 2) rfl
          refine bodyPost_ret (v := .tuple #[.agg #[.int .i64 0, .int .i64 0, .slice none 0 0], .int .i64 2]) (by simp [results, Tryz.results37, go_sem, q0, q1, q2]) rfl ?_
          refine ⟨ext3 (HX9.out.trans hxf) (by have := HZ.out; omega) _ _ _, ?_⟩
          exact .inl ⟨by rw [HE0.out]; decide, by rw [HE0.out]⟩
        · have HE0 := Lib.hid (show addE b e v t = 0 by rw [HE.out, if_neg hc])
          have HF := Lib.hid (show Calls Tryz.prog 85 #[.agg #[.int .i64 b.ms, .int .i64 b.ht, .slice A9 (N + 1) c9]] wc (fun z9 wf => Ext wc wf ∧ z9 = .returned (.tuple #[.agg #[.int .i64 b.ms, .int .i64 b.ht, .slice A9 (N + 1) c9], .int .i64 0])) from by
            refine (HFT.out _ HX9.out A9 c9 (Lay.row_mono HRO.out fun j hj _ => Nat.le_trans HZL.out.2 hj)).mono ?_
            rintro z9 wf ⟨hxf, (⟨hnp, rfl⟩ | ⟨hnp, rfl⟩)⟩
            · exact ⟨hxf, rfl⟩
            · omega)
          clear HFT
          go_wp2_with (first | (go_at_call 85; refine (HF.out).mono ?_; rintro z9 wf ⟨hxf, rfl⟩; have hRf := (hxf.block _ (lt_of_block HR9.out)).trans HR9.out; obtain ⟨k0, k1, k2, j0, j1, j2⟩ := BkR.of hRf; have HRF := Lib.hid hRf; clear hRf))
          have hs := st3 HRF.out (.int .i64 b.ms) (.int .i64 b.ht) (.slice A9 (N + 1) c9)
          have q0 := cell_of hs (i := 0) rfl
          have q1 := cell_of hs (i := 1) rfl
          have q2 := cell_of hs (i := 2) rfl
          refine bodyPost_ret (v := .tuple #[.agg #[.int .i64 b.ms, .int .i64 b.ht, .slice A9 (N + 1) c9], .int .i64 0]) (by simp [results, Tryz.results37, go_sem, q0, q1, q2]) rfl ?_
          refine ⟨ext3 (HX9.out.trans hxf) (by have := HZ.out; omega) _ _ _, ?_⟩
          refine .inr ⟨HE0.out, A9, N + 1, c9, rfl, hc9, Lay.row_mono (Lay.row_keep HRO.out (by have := hxf.lt; simp; omega) fun j hj hl => ?_) fun j hj _ => Nat.le_trans HZL.out.2 hj⟩
          have hz9 : j ≠ z2 := by have := HZL.out.1; omega
          exact (heap_setCell_other _ ⟨z2, 2, none⟩ j _ hz9).trans ((heap_setCell_other _ ⟨z2, 1, none⟩ j _ hz9).trans ((heap_setCell_other _ ⟨z2, 0, none⟩ j _ hz9).trans (hxf.block j hl)))
end Go.Proofs.YtdbnddmncbjobaaGreatDoor

/- glyph.Word: walked. -/
namespace Go.Proofs.YtdbnddmncbjobaaGreatDoor
open Go Go.RowKit
attribute [local go_sem] Oper.semAt_some

theorem flatW_len (L : List (List Wd)) : L.flatten.length = wordsN L := by unfold wordsN; rw [List.length_flatten]
theorem flat_at {L : List (List Wd)} {i : Nat} {p : List Wd} (h : L[i]? = some p) {k : Nat} (h1 : wordsN (L.take i) ≤ k) (h2 : k - wordsN (L.take i) < p.length) : L.flatten[k]? = p[k - wordsN (L.take i)]? := by
  obtain ⟨hi, rfl⟩ := List.getElem?_eq_some_iff.1 h
  conv => lhs; rw [← List.take_append_drop i L, List.drop_eq_getElem_cons hi]
  rw [List.flatten_append, List.getElem?_append_right (by rw [flatW_len]; exact h1), flatW_len, List.flatten_cons, List.getElem?_append_left h2]
theorem flat_no {L : List (List Wd)} {k : Nat} (h : wordsN L ≤ k) : L.flatten[k]? = none := List.getElem?_eq_none (by rw [flatW_len]; exact h)
def wdV (x : Wd) : Value := .agg #[.string ⟨x.s.toArray⟩, .string ⟨x.key.toArray⟩, .int .i64 x.tb, .int .i64 x.nt]
def noWd : Wd := ⟨[], [], 0, 0⟩
/-- A word, or none. -/
def wdR (o : Option Wd) : Value := .tuple #[wdV (o.getD noWd), .bool o.isSome]
structure GwB (z : Nat) (x : Wd) (W : World) : Prop where
  b : W.heap[z]? = some (.cells #[.string ⟨x.s.toArray⟩, .string ⟨x.key.toArray⟩, .int .i64 x.tb, .int .i64 x.nt] 60 (0, 0))
theorem GwB.set {z : Nat} {y : Wd} {W w : World} (h : GwB z y W) (hw : w.heap.size ≤ z) (hx : Ext w W) (x : Wd) :
    GwB z x ((((W.setCell ⟨z, 0, none⟩ (.string ⟨x.s.toArray⟩)).setCell ⟨z, 1, none⟩ (.string ⟨x.key.toArray⟩)).setCell ⟨z, 2, none⟩ (.int .i64 x.tb)).setCell ⟨z, 3, none⟩ (.int .i64 x.nt)) ∧
    Ext w ((((W.setCell ⟨z, 0, none⟩ (.string ⟨x.s.toArray⟩)).setCell ⟨z, 1, none⟩ (.string ⟨x.key.toArray⟩)).setCell ⟨z, 2, none⟩ (.int .i64 x.tb)).setCell ⟨z, 3, none⟩ (.int .i64 x.nt)) :=
  ⟨⟨heap_setCell_same _ z 3 _ 60 _ (heap_setCell_same _ z 2 _ 60 _ (heap_setCell_same _ z 1 _ 60 _ (heap_setCell_same _ z 0 _ 60 _ h.b)))⟩, (((hx.setCell (p := ⟨z, 0, none⟩) hw _).setCell (p := ⟨z, 1, none⟩) hw _).setCell (p := ⟨z, 2, none⟩) hw _).setCell (p := ⟨z, 3, none⟩) hw _⟩
def GwR (w1 : World) (L : List (List Wd)) (k : Int) (s1 s18 : Value) (w' : World) : Prop := ∃ i : Nat, i ≤ L.length ∧ s18 = .int .i64 i ∧ s1 = .int .i64 (k - (wordsN (L.take i) : Nat)) ∧ (wordsN (L.take i) : Int) ≤ k ∧ w1 = w'
set_option maxHeartbeats 4000000 in
set_option maxRecDepth 100000 in
theorem gword_any (P : Nat → Prop) (w : World) (A A' : Option Addr) (n n' c c' : Nat) (t : Tx) (k : Int) (h1 : kWs.row w P A n t.paras) (h2 : kWs.row w P A' n' t.notes) (hp : t.paras.length ≤ 10000) (hn : t.notes.length ≤ 10000) (hb : wordsN (t.paras ++ t.notes) ≤ 1000000) (hk : k ≤ 9223372036854775807) :
    Calls Tryz.prog 32 #[.agg #[.slice A n c, .slice A' n' c'], .int .i64 k] w (fun e w' => e = .returned (wdR (wordT t k)) ∧ Ext w w') := by
  have HC := Lib.hid (fun X (hx : Ext w X) g hg g0 g1 => cat72 kWs rfl P X g A A' n n' c c' _ _ (Lay.row_ext h1 hx) (Lay.row_ext h2 hx) (by have := Lay.row_len h1; omega) (by have := Lay.row_len h2; omega) hg g0 g1)
  have HW := Lib.hid (show wordT t k = if k < 0 then none else (t.paras ++ t.notes).flatten[k.toNat]? from rfl)
  obtain ⟨L, hLe⟩ : ∃ L, t.paras ++ t.notes = L := ⟨_, rfl⟩
  obtain ⟨m, hm⟩ : ∃ m, L.length = m := ⟨_, rfl⟩
  have hm2 : m ≤ 20000 := by rw [← hm, ← hLe, List.length_append]; omega
  rw [hLe] at HC HW
  rw [hLe] at hb
  have HM := Lib.hid hm
  have HB := Lib.hid hb
  have HC2 := Lib.hid (fun X (hx : Ext w X) g hg g0 g1 => (show Calls Tryz.prog 72 #[.slice (some ⟨g, 0, none⟩) 2 2] X (fun e X' => ∃ A3 c3, e = .returned (.slice A3 m c3) ∧ kWs.row X' (fun j => P j ∨ X.heap.size ≤ j) A3 m L ∧ Ext X X') from by
    refine (HC.out X hx g hg g0 g1).mono ?_
    rintro e X' ⟨A3, c3, rfl, ho, hxx⟩
    obtain ⟨Ar, cr, er, _, hrow⟩ := Lay.own_row ho
    obtain ⟨e1, _, _⟩ := Value.slice.inj er
    subst hm
    rw [← e1] at hrow
    exact ⟨A3, c3, rfl, Lay.row_mono hrow fun j hj _ => hj.imp id fun hj => (Lay.own_lt ho j hj).1, hxx⟩))
  obtain ⟨o, ho⟩ : ∃ o, wordT t k = o := ⟨_, rfl⟩
  rw [ho] at HW ⊢
  clear h1 h2 hp hn hLe hm hb HC ho
  obtain ⟨z, hz⟩ : ∃ z, w.heap.size = z := ⟨_, rfl⟩
  obtain ⟨w0, hw0⟩ : ∃ w0, (w.alloc (.cells #[.slice A n c, .slice A' n' c'] 53)).alloc (.cells #[.string ⟨#[]⟩, .string ⟨#[]⟩, .int .i64 0, .int .i64 0] 60) = w0 := ⟨_, rfl⟩
  have hx0 : Ext w w0 := by rw [← hw0]; exact ((Ext.refl w).alloc _).alloc _
  have hB0 : w0.heap[z]? = some (.cells #[.slice A n c, .slice A' n' c'] 53 (0, 0)) := by
    rw [← hw0, ← hz, heap_alloc_old _ _ _ (by simp)]; exact heap_alloc_new _ _
  have hB1 : GwB (z + 1) noWd w0 := ⟨by rw [← hw0, ← hz]; exact heap_alloc_at _ _ _ _ (by simp)⟩
  have HX0 := Lib.hid hx0
  have HB1 := Lib.hid hB1
  have HZ := Lib.hid hz
  have a0 := cell_of hB0 (i := 0) (u := .slice A n c) rfl
  have a1 := cell_of hB0 (i := 1) (u := .slice A' n' c') rfl
  go_enter Tryz.func32, Tryz.ntmps32
  go_upto_region 1 with (fail)
  clear hw0 hz
  by_cases hk0 : k < 0
  · have hon : o = none := by rw [HW.out, if_pos hk0]
    subst hon
    have f0 := frozen_of hB1.b 0
    have f1 := frozen_of hB1.b 1
    have f2 := frozen_of hB1.b 2
    have f3 := frozen_of hB1.b 3
    have e0 := cell_of hB1.b (i := 0) rfl
    have e1 := cell_of hB1.b (i := 1) rfl
    have e2 := cell_of hB1.b (i := 2) rfl
    have e3 := cell_of hB1.b (i := 3) rfl
    clear hB0 hB1 hx0
    go_wp2_with fail
    obtain ⟨Y, hY⟩ : ∃ Y, ((((w0.setCell ⟨z + 1, 0, none⟩ (.string ⟨#[]⟩)).setCell ⟨z + 1, 1, none⟩ (.string ⟨#[]⟩)).setCell ⟨z + 1, 2, none⟩ (.int .i64 0)).setCell ⟨z + 1, 3, none⟩ (.int .i64 0)) = Y := ⟨_, rfl⟩
    have hg : GwB (z + 1) noWd ((((w0.setCell ⟨z + 1, 0, none⟩ (.string ⟨#[]⟩)).setCell ⟨z + 1, 1, none⟩ (.string ⟨#[]⟩)).setCell ⟨z + 1, 2, none⟩ (.int .i64 0)).setCell ⟨z + 1, 3, none⟩ (.int .i64 0)) ∧ Ext w ((((w0.setCell ⟨z + 1, 0, none⟩ (.string ⟨#[]⟩)).setCell ⟨z + 1, 1, none⟩ (.string ⟨#[]⟩)).setCell ⟨z + 1, 2, none⟩ (.int .i64 0)).setCell ⟨z + 1, 3, none⟩ (.int .i64 0)) := HB1.out.set (w := w) (by have := HZ.out; omega) HX0.out noWd
    rw [hY] at hg ⊢
    obtain ⟨g1, g2⟩ := hg
    have q0 := cell_of g1.b (i := 0) (u := .string ⟨#[]⟩) rfl
    have q1 := cell_of g1.b (i := 1) (u := .string ⟨#[]⟩) rfl
    have q2 := cell_of g1.b (i := 2) (u := .int .i64 0) rfl
    have q3 := cell_of g1.b (i := 3) (u := .int .i64 0) rfl
    refine bodyPost_ret (v := wdR none) (by simp [results, Tryz.results32, go_sem, q0, q1, q2, q3]; rfl) rfl ?_
    exact ⟨rfl, g2⟩
  have HK0 := Lib.hid hk0
  clear hk0 hB0 hB1 hx0
  go_wp2_with (first | (go_at_call 72; refine (HC2.out _ (HX0.out.alloc _) _ (by simp) (by go_simp) (by go_simp)).mono ?_; rintro e w1 ⟨A3, c3, rfl, hrow, hx⟩; have HRW := Lib.hid hrow; have HX1 := Lib.hid (((Ext.refl w0).alloc _).trans hx); clear hrow hx))
  have HBX := Lib.hid (show GwB (z + 1) noWd w1 from ⟨(HX1.out.block _ (lt_of_block HB1.out.b)).trans HB1.out.b⟩)
  have HX := Lib.hid (HX0.out.trans HX1.out)
  clear a0 a1
  go_loopw [1, 7, 18] (fun s1 _ s18 w' => GwR w1 L k s1 s18 w') (fun _ _ s18 _ => toM m s18)
  case atStart => exact ⟨0, by omega, rfl, by simp [wordsN], by have := HK0.out; simp [wordsN]; omega, rfl⟩
  case round =>
    obtain ⟨i, hi, rfl, rfl, hqk, rfl⟩ := hrel
    rw [HM.out] at hi
    have hq1 := wordsN_le L i
    have hq2 := HB.out
    have hk0' := HK0.out
    obtain ⟨q, hq⟩ : ∃ q, wordsN (L.take i) = q := ⟨_, rfl⟩
    rw [hq] at hq1 hqk ⊢
    have HQ := Lib.hid hq
    obtain ⟨kn, hkn⟩ : ∃ kn : Nat, k - (q : Int) = kn := ⟨(k - q).toNat, by omega⟩
    rw [hkn]
    have HKN := Lib.hid hkn
    have f0 := frozen_of HBX.out.b 0
    have f1 := frozen_of HBX.out.b 1
    have f2 := frozen_of HBX.out.b 2
    have f3 := frozen_of HBX.out.b 3
    have e0 := cell_of HBX.out.b (i := 0) rfl
    have e1 := cell_of HBX.out.b (i := 1) rfl
    have e2 := cell_of HBX.out.b (i := 2) rfl
    have e3 := cell_of HBX.out.b (i := 3) rfl
    by_cases hlt : i < m
    case neg =>
      obtain rfl : i = m := by omega
      have hni : ¬ ((i : Int) < (i : Int)) := by omega
      have hon : o = none := by
        rw [HW.out, if_neg (show ¬ k < 0 by have := HK0.out; omega)]
        refine flat_no ?_
        rw [← HM.out, List.take_length] at hq
        omega
      subst hon
      clear hq hkn hqk
      go_wp2_with fail
      obtain ⟨Y, hY⟩ : ∃ Y, ((((w1.setCell ⟨z + 1, 0, none⟩ (.string ⟨#[]⟩)).setCell ⟨z + 1, 1, none⟩ (.string ⟨#[]⟩)).setCell ⟨z + 1, 2, none⟩ (.int .i64 0)).setCell ⟨z + 1, 3, none⟩ (.int .i64 0)) = Y := ⟨_, rfl⟩
      have hg : GwB (z + 1) noWd ((((w1.setCell ⟨z + 1, 0, none⟩ (.string ⟨#[]⟩)).setCell ⟨z + 1, 1, none⟩ (.string ⟨#[]⟩)).setCell ⟨z + 1, 2, none⟩ (.int .i64 0)).setCell ⟨z + 1, 3, none⟩ (.int .i64 0)) ∧ Ext w ((((w1.setCell ⟨z + 1, 0, none⟩ (.string ⟨#[]⟩)).setCell ⟨z + 1, 1, none⟩ (.string ⟨#[]⟩)).setCell ⟨z + 1, 2, none⟩ (.int .i64 0)).setCell ⟨z + 1, 3, none⟩ (.int .i64 0)) := HBX.out.set (w := w) (by have := HZ.out; omega) HX.out noWd
      rw [hY] at hg ⊢
      obtain ⟨g1, g2⟩ := hg
      have q0 := cell_of g1.b (i := 0) (u := .string ⟨#[]⟩) rfl
      have q1 := cell_of g1.b (i := 1) (u := .string ⟨#[]⟩) rfl
      have q2 := cell_of g1.b (i := 2) (u := .int .i64 0) rfl
      have q3 := cell_of g1.b (i := 3) (u := .int .i64 0) rfl
      refine bodyPost_ret (v := wdR none) (by simp [results, Tryz.results32, go_sem, q0, q1, q2, q3]; rfl) rfl ?_
      exact ⟨rfl, g2⟩
    have hI : (i : Int) < (m : Int) := by omega
    obtain ⟨p, hpi⟩ : ∃ p, L[i]? = some p := ⟨_, List.getElem?_eq_getElem (by have := HM.out; omega)⟩
    obtain ⟨bl, ol, cl, rfl, hbl, _, hrl, hcl⟩ := Lay.row_at HRW.out hpi
    obtain ⟨Ap, cp, rfl, hpc, hrp⟩ := kWs_rep.1 hrl
    have d0 := hcl 0 _ rfl
    rw [show kWs.sz = 1 from rfl, Nat.mul_one, Nat.add_zero] at d0
    have hst := wordsN_take L i hpi
    have hq3 := wordsN_le L (i + 1)
    rw [hst, hq] at hq3
    by_cases hkp : kn < p.length
    · have hkI : (kn : Int) < (p.length : Int) := by omega
      obtain ⟨x, hx⟩ : ∃ x, p[kn]? = some x := ⟨_, List.getElem?_eq_getElem hkp⟩
      obtain ⟨b2, o2, cs, rfl, hb2, _, hrep, hc2⟩ := Lay.row_at hrp hx
      have hon : o = some x := by
        rw [HW.out, if_neg (show ¬ k < 0 by have := HK0.out; omega), flat_at hpi (k := k.toNat) (by rw [hq]; omega) (by rw [hq]; omega), hq, ← hx]
        congr 1
        omega
      subst hon
      rw [kWd_rep.1 hrep] at hc2
      have x0 := hc2 0 _ rfl
      have x1 := hc2 1 _ rfl
      have x2 := hc2 2 _ rfl
      have x3 := hc2 3 _ rfl
      rw [kWd_sz] at x0 x1 x2 x3
      rw [Nat.add_zero] at x0
      generalize hpl : p.length = pl at hkI d0
      clear hq hkn hqk hcl hrl hpi hrp hrep hc2 hst hq3 hkp hpc hx hpl
      go_wp2_with fail
      obtain ⟨Y, hY⟩ : ∃ Y, ((((w1.setCell ⟨z + 1, 0, none⟩ (.string ⟨x.s.toArray⟩)).setCell ⟨z + 1, 1, none⟩ (.string ⟨x.key.toArray⟩)).setCell ⟨z + 1, 2, none⟩ (.int .i64 x.tb)).setCell ⟨z + 1, 3, none⟩ (.int .i64 x.nt)) = Y := ⟨_, rfl⟩
      have hg := HBX.out.set (w := w) (by have := HZ.out; omega) HX.out x
      rw [hY] at hg ⊢
      obtain ⟨g1, g2⟩ := hg
      have q0 := cell_of g1.b (i := 0) rfl
      have q1 := cell_of g1.b (i := 1) rfl
      have q2 := cell_of g1.b (i := 2) rfl
      have q3 := cell_of g1.b (i := 3) rfl
      refine bodyPost_ret (v := wdR (some x)) (by simp [results, Tryz.results32, go_sem, q0, q1, q2, q3]; rfl) rfl ?_
      exact ⟨rfl, g2⟩
    · have hkI : ¬ ((kn : Int) < (p.length : Int)) := by omega
      have hwk : IntKind.i64.wrap ((kn : Int) - (p.length : Int)) = (kn : Int) - (p.length : Int) := IntWalk.i64_in _ (by omega)
      have HREL := Lib.hid (show GwR w1 L k (.int .i64 ((kn : Int) - (p.length : Int))) (.int .i64 ((i : Int) + 1)) w1 from ⟨i + 1, by have := HM.out; omega, by simp, by rw [hst, hq, ← hkn]; congr 1; simp only [Int.natCast_add]; omega, by rw [hst, hq]; omega, rfl⟩)
      clear hq hkn hqk hcl hrl hpi hrp hst hq3 hkp hpc
      go_wp2_with fail
      go_roundw
      case rel => exact HREL.out
      case measure => simp only [toM]; omega
end Go.Proofs.YtdbnddmncbjobaaGreatDoor

/- The reference's words, Count and Word. -/
namespace Go.Proofs.YtdbnddmncbjobaaGreatDoor
open Go Go.RowKit

def WlR (w : World) (pre : List Wd) (ps : List (List Wd)) (s3 s4 : Value) (W : World) : Prop := ∃ (i : Nat) (out : Value), i ≤ ps.length ∧ s4 = .int .i64 i ∧ out = s3 ∧ kWd.own 60 W w.heap.size (fun _ => True) out (pre ++ (ps.take i).flatten) ∧ Ext w W
theorem flat_lt {ps : List (List Wd)} (h : ∀ p ∈ ps, p.length ≤ 1000) : ps.flatten.length ≤ 1000 * ps.length := by
  induction ps with
  | nil => simp
  | cons a r ih =>
    have h1 := h a (by simp)
    have h2 := ih fun p hp => h p (by simp [hp])
    simp only [List.flatten_cons, List.length_append, List.length_cons]
    omega
theorem flat_take {ps : List (List Wd)} (h : ∀ p ∈ ps, p.length ≤ 1000) (i : Nat) : (ps.take i).flatten.length ≤ 1000 * ps.length := by
  have h1 := flat_lt (ps := ps.take i) fun p hp => h p (List.mem_of_mem_take hp)
  have h2 : (ps.take i).length ≤ ps.length := by rw [List.length_take]; omega
  have h3 : 1000 * (ps.take i).length ≤ 1000 * ps.length := Nat.mul_le_mul_left _ h2
  omega
theorem flat_next {ps : List (List Wd)} {i : Nat} {p : List Wd} (h : ps[i]? = some p) (pre : List Wd) : pre ++ (ps.take i).flatten ++ p = pre ++ (ps.take (i + 1)).flatten := by
  rw [List.take_add_one, h]; simp
set_option maxHeartbeats 4000000 in
set_option maxRecDepth 100000 in
theorem words118_any (P : Nat → Prop) (w : World) (A A' : Option Addr) (n n' c c' : Nat) (t : Tx) (h1 : kWs.row w P A n t.paras) (h2 : kWs.row w P A' n' t.notes) (hn : n ≤ 10000) (hn' : n' ≤ 10000) (hp : ∀ p ∈ t.paras ++ t.notes, p.length ≤ 1000) :
    Calls Tryz.prog 118 #[.agg #[.slice A n c, .slice A' n' c']] w fun e w' => ∃ A1 n1 c1, e = .returned (.slice A1 n1 c1) ∧ n1 ≤ c1 ∧ kWd.row w' (fun _ => True) A1 n1 (t.paras ++ t.notes).flatten ∧ Ext w w' := by
  have HP1 := Lib.hid (fun p (h : p ∈ t.paras) => hp p (List.mem_append_left _ h))
  have HP2 := Lib.hid (fun p (h : p ∈ t.notes) => hp p (List.mem_append_right _ h))
  obtain ⟨w1, hw1⟩ : ∃ w1, w.alloc (.cells #[.slice A n c, .slice A' n' c'] 53) = w1 := ⟨_, rfl⟩
  have hx : Ext w w1 := by rw [← hw1]; exact (Ext.refl w).alloc _
  have hB : w1.heap[w.heap.size]? = some (.cells #[.slice A n c, .slice A' n' c'] 53 (0, 0)) := by rw [← hw1]; exact heap_alloc_new w _
  have hbl := lt_of_block hB
  have HQ := Lib.hid (fun X (hX : Ext w1 X) => (show X.cell? ⟨w.heap.size, 0, none⟩ = some (.slice A n c) ∧ X.cell? ⟨w.heap.size, 1, none⟩ = some (.slice A' n' c') from ⟨cell_of ((hX.block _ hbl).trans hB) (i := 0) rfl, cell_of ((hX.block _ hbl).trans hB) (i := 1) rfl⟩))
  have HR1 := Lib.hid (Lay.row_ext (Lay.row_mono h1 (Q := fun _ => True) fun _ _ _ => trivial) hx)
  have HR2 := Lib.hid (Lay.row_ext (Lay.row_mono h2 (Q := fun _ => True) fun _ _ _ => trivial) hx)
  have HX := Lib.hid hx
  have HL1 := Lib.hid (Lay.row_len h1)
  have HL2 := Lib.hid (Lay.row_len h2)
  have HF := Lib.hid (show t.paras.flatten.length ≤ 10000000 from by have := flat_lt HP1.out; have := HL1.out; omega)
  clear h1 h2 hx hB hbl hp
  go_enter Tryz.func118, Tryz.ntmps118
  go_upto_region 1 with (fail)
  clear hw1
  go_wp2_with fail
  go_loopw [3, 4] (fun s3 s4 W => WlR w1 [] t.paras s3 s4 W) (fun _ s4 _ => toM n s4)
  case atStart => exact ⟨0, _, Nat.zero_le _, rfl, rfl, Lay.own_nil _ _ _ _ _, Ext.refl _⟩
  case round =>
    obtain ⟨i, out, hi, rfl, rfl, ho, hxr⟩ := hrel
    have HO := Lib.hid ho
    have HXR := Lib.hid hxr
    clear ho hxr
    obtain ⟨q0, q1⟩ := HQ.out _ HXR.out
    by_cases hlt : i < n
    case pos =>
      have hI : (i : Int) < (n : Int) := by omega
      obtain ⟨p, hp⟩ : ∃ p, t.paras[i]? = some p := ⟨_, List.getElem?_eq_getElem (by have := HL1.out; omega)⟩
      obtain ⟨bb, off, cs, rfl, hb0, _, hrep, hcell⟩ := Lay.row_at HR1.out hp
      obtain ⟨Ap, cp, rfl, hcp, hrp⟩ := kWs_rep.1 hrep
      have hce := (HXR.out.cells.1 _ _ hb0).trans (hcell 0 _ rfl)
      rw [kWs_sz, Nat.mul_one, Nat.add_zero] at hce
      obtain ⟨A2, c2, w2, hrun, ho2, hx2⟩ := own_app (Pr := Tryz.prog) (t := 54) (k := kWd) Tryz.underlying54 info60c rfl (by decide) (by omega) HO.out HXR.out hrp cp (by have := flat_take HP1.out i; have := HP1.out p (List.mem_of_getElem? hp); have := HL1.out; simp only [List.nil_append]; omega)
      rw [flat_next hp] at ho2
      have HO2 := Lib.hid ho2
      have HX2 := Lib.hid hx2
      have HRUN := Lib.hid hrun
      clear ho2 hx2 hrun hrep hcell hrp hcp
      obtain ⟨L, hLL⟩ : ∃ L, p.length = L := ⟨_, rfl⟩
      rw [hLL] at hce HRUN HO2
      clear hp hLL
      obtain ⟨M, hM⟩ : ∃ M, ([] ++ (t.paras.take i).flatten).length + L = M := ⟨_, rfl⟩
      rw [hM] at HRUN HO2
      clear hM
      go_wp2_with (first | (at_builtin; refine wpList_append_run HRUN.out rfl rfl rfl rfl rfl ?_))
      go_roundw
      case rel => exact ⟨i + 1, _, by have := HL1.out; omega, by go_num, rfl, HO2.out, HX2.out⟩
      case measure => simp only [toM]; omega
    have hni : ¬ (i : Int) < (n : Int) := by omega
    have hO : kWd.own 60 wr w1.heap.size (fun _ => True) out (t.paras.flatten ++ (t.notes.take 0).flatten) := by
      have := HO.out
      rw [List.take_of_length_le (by have := HL1.out; omega)] at this
      simpa using this
    have HO0 := Lib.hid hO
    clear hO HO
    go_wp2_with fail
    go_loopw [3, 5] (fun s3 s5 W => WlR w1 t.paras.flatten t.notes s3 s5 W) (fun _ s5 _ => toM n' s5)
    case atStart => exact ⟨0, _, Nat.zero_le _, rfl, rfl, HO0.out, HXR.out⟩
    case round =>
      obtain ⟨j, out2, hj, rfl, rfl, ho, hxr⟩ := hrel
      have HO := Lib.hid ho
      have HXR2 := Lib.hid hxr
      clear ho hxr q0 q1
      obtain ⟨q0, q1⟩ := HQ.out _ HXR2.out
      by_cases hlt2 : j < n'
      case pos =>
        have hJ : (j : Int) < (n' : Int) := by omega
        obtain ⟨p, hp⟩ : ∃ p, t.notes[j]? = some p := ⟨_, List.getElem?_eq_getElem (by have := HL2.out; omega)⟩
        obtain ⟨bb, off, cs, rfl, hb0, _, hrep, hcell⟩ := Lay.row_at HR2.out hp
        obtain ⟨Ap, cp, rfl, hcp, hrp⟩ := kWs_rep.1 hrep
        have hce := (HXR2.out.cells.1 _ _ hb0).trans (hcell 0 _ rfl)
        rw [kWs_sz, Nat.mul_one, Nat.add_zero] at hce
        obtain ⟨A2, c2, w2, hrun, ho2, hx2⟩ := own_app (Pr := Tryz.prog) (t := 54) (k := kWd) Tryz.underlying54 info60c rfl (by decide) (by omega) HO.out HXR2.out hrp cp (by have := flat_take HP2.out j; have := HP2.out p (List.mem_of_getElem? hp); have := HL2.out; have := HF.out; simp only [List.length_append]; omega)
        rw [flat_next hp] at ho2
        have HO2 := Lib.hid ho2
        have HX2 := Lib.hid hx2
        have HRUN := Lib.hid hrun
        clear ho2 hx2 hrun hrep hcell hrp hcp
        obtain ⟨L, hLL⟩ : ∃ L, p.length = L := ⟨_, rfl⟩
        rw [hLL] at hce HRUN HO2
        clear hp hLL
        obtain ⟨M, hM⟩ : ∃ M, (t.paras.flatten ++ (t.notes.take j).flatten).length + L = M := ⟨_, rfl⟩
        rw [hM] at HRUN HO2
        clear hM
        go_wp2_with (first | (at_builtin; refine wpList_append_run HRUN.out rfl rfl rfl rfl rfl ?_))
        go_roundw
        case rel => exact ⟨j + 1, _, by have := HL2.out; omega, by go_num, rfl, HO2.out, HX2.out⟩
        case measure => simp only [toM]; omega
      have hnj : ¬ (j : Int) < (n' : Int) := by omega
      have hO : kWd.own 60 wr w1.heap.size (fun _ => True) out2 (t.paras ++ t.notes).flatten := by
        have := HO.out
        rw [List.take_of_length_le (by have := HL2.out; omega)] at this
        simpa using this
      obtain ⟨A9, c9, rfl, h9, hr9⟩ := Lay.own_row hO
      have HR9 := Lib.hid (Lay.row_mono hr9 (Q := fun _ => True) fun _ _ _ => trivial)
      have H9 := Lib.hid h9
      have HO9 := Lib.hid hO
      clear hr9 hO h9 HO
      obtain ⟨L, hLL⟩ : ∃ L, (t.paras ++ t.notes).flatten.length = L := ⟨_, rfl⟩
      rw [hLL] at HR9 H9
      rw [hLL]
      clear HO9 hLL
      go_wp2_with fail
      go_ret
      exact ⟨A9, L, c9, rfl, H9.out, by rw [← List.flatten_append]; exact HR9.out, HX.out.trans HXR2.out⟩
set_option maxHeartbeats 4000000 in
set_option maxRecDepth 100000 in
theorem count108_any (P : Nat → Prop) (w : World) (A A' : Option Addr) (n n' c c' : Nat) (t : Tx) (h1 : kWs.row w P A n t.paras) (h2 : kWs.row w P A' n' t.notes) (hn : n ≤ 10000) (hn' : n' ≤ 10000) (hp : ∀ p ∈ t.paras ++ t.notes, p.length ≤ 1000) :
    Calls Tryz.prog 108 #[.agg #[.slice A n c, .slice A' n' c']] w fun e w' => e = .returned (.int .i64 ((t.paras ++ t.notes).flatten.length : Nat)) ∧ Ext w w' := by
  have HW := Lib.hid (fun X (hX : Ext w X) => words118_any P X A A' n n' c c' t (Lay.row_ext h1 hX) (Lay.row_ext h2 hX) hn hn' hp)
  clear h1 h2 hn hn' hp
  obtain ⟨w1, hw1⟩ : ∃ w1, w.alloc (.cells #[.slice A n c, .slice A' n' c'] 53) = w1 := ⟨_, rfl⟩
  have hx : Ext w w1 := by rw [← hw1]; exact (Ext.refl w).alloc _
  have hB : w1.heap[w.heap.size]? = some (.cells #[.slice A n c, .slice A' n' c'] 53 (0, 0)) := by rw [← hw1]; exact heap_alloc_new w _
  have q0 := cell_of hB (i := 0) rfl
  have q1 := cell_of hB (i := 1) rfl
  have HX := Lib.hid hx
  clear hx hB
  go_enter Tryz.func108, Tryz.ntmps108
  go_upto_region 1 with (fail)
  clear hw1
  go_wp2_with (first | (go_at_call 118; refine (HW.out _ HX.out).mono ?_; rintro e w2 ⟨A1, n1, c1, rfl, hnc, hr, hx2⟩; have HN := Lib.hid (Lay.row_len hr); have HX2 := Lib.hid hx2; clear hr hx2 hnc))
  go_ret
  exact ⟨by rw [← HN.out]; rfl, HX.out.trans HX2.out⟩
end Go.Proofs.YtdbnddmncbjobaaGreatDoor

/- Comparisons of places: walked. -/
namespace Go.Proofs.YtdbnddmncbjobaaGreatDoor
open Go Go.RowKit Go.Sort
attribute [local go_sem] Oper.semAt_some

/-- The order of labels. -/
def LbLt (n s n' s' : Int) : Prop := n < n' ∨ (n = n' ∧ s < s')
instance (n s n' s' : Int) : Decidable (LbLt n s n' s') := by unfold LbLt; infer_instance
def ctV (c : Ct) : Value := .agg #[.int .i64 c.br, .int .i64 c.nu, .int .i64 c.su, .int .i64 c.li]
end Go.Proofs.YtdbnddmncbjobaaGreatDoor

/- cmp.Or, label.Less, compare: walked. -/
namespace Go.Proofs.YtdbnddmncbjobaaGreatDoor
open Go Go.RowKit Go.Sort
attribute [local go_sem] Oper.semAt_some

def OrRel (W0 : World) (c0 c1 : Int) (s8 : Value) (w' : World) : Prop := ∃ i : Nat, i ≤ 2 ∧ s8 = .int .i64 i ∧ (1 ≤ i → c0 = 0) ∧ (2 ≤ i → c1 = 0) ∧ W0 = w'
set_option maxHeartbeats 4000000 in
set_option maxRecDepth 100000 in
theorem or_two (w : World) (b : Nat) (c0 c1 : Int) (h0 : w.cell? ⟨b, 0, none⟩ = some (.int .i64 c0)) (h1 : w.cell? ⟨b, 1, none⟩ = some (.int .i64 c1)) :
    Calls Tryz.prog 169 #[.slice (some ⟨b, 0, none⟩) 2 2] w fun e w' => e = .returned (.int .i64 (if c0 = 0 then c1 else c0)) ∧ w = w' := by
  obtain ⟨r, hr⟩ : ∃ r, (if c0 = 0 then c1 else c0) = r := ⟨_, rfl⟩
  rw [hr]
  have HR := Lib.hid hr
  clear hr
  go_enter Tryz.func169, Tryz.ntmps169
  go_wp2_with fail
  go_loopw [5, 8] (fun _ s8 w' => OrRel w c0 c1 s8 w') (fun _ s8 _ => toM 2 s8)
  case atStart => exact ⟨0, by omega, rfl, by omega, by omega, rfl⟩
  case round =>
    obtain ⟨i, hi, rfl, k0, k1, rfl⟩ := hrel
    have K0 := Lib.hid k0
    have K1 := Lib.hid k1
    clear k0 k1
    obtain rfl | rfl | rfl : i = 0 ∨ i = 1 ∨ i = 2 := by omega
    · by_cases hc : c0 = 0
      · have HC := Lib.hid hc
        have d : (c0 != 0) = false := by simpa using hc
        clear hc
        go_wp2_with fail
        go_roundw
        case rel => exact ⟨1, by omega, rfl, fun _ => HC.out, by omega, rfl⟩
        case measure => simp [toM]
      · have d : (c0 != 0) = true := by simpa using hc
        have HF := Lib.hid (show r = c0 from by rw [← HR.out, if_neg hc])
        clear hc
        go_wp2_with fail
        go_ret
        exact ⟨ret_i HF.out.symm, rfl⟩
    · have HC := Lib.hid (K0.out (by omega))
      by_cases hc : c1 = 0
      · have HC1 := Lib.hid hc
        have d : (c1 != 0) = false := by simpa using hc
        clear hc
        go_wp2_with fail
        go_roundw
        case rel => exact ⟨2, by omega, rfl, fun _ => HC.out, fun _ => HC1.out, rfl⟩
        case measure => simp [toM]
      · have d : (c1 != 0) = true := by simpa using hc
        have HF := Lib.hid (show r = c1 from by rw [← HR.out, if_pos HC.out])
        clear hc
        go_wp2_with fail
        go_ret
        exact ⟨ret_i HF.out.symm, rfl⟩
    · have HF := Lib.hid (show r = 0 from by rw [← HR.out, if_pos (K0.out (by omega)), K1.out (by omega)])
      go_wp2_with fail
      go_ret
      exact ⟨ret_i HF.out.symm, rfl⟩
/-- The world has grown: draws and new blocks. -/
def Gr (w w' : World) : Prop := ∃ q os, w' = grow (w.drewN q) os
theorem gr_of {w w' : World} (h : Ext w w') (hd : w.drawn ≤ w'.drawn) : Gr w w' := by
  obtain ⟨h1, h2, h3, h4, h5⟩ := h
  refine ⟨w'.drawn - w.drawn, w'.heap.extract w.heap.size w'.heap.size, ?_⟩
  obtain ⟨hp, tp, dr, o, out⟩ := w'
  have hh : hp = w.heap ++ hp.extract w.heap.size hp.size := by
    apply Array.ext
    · simp; simp at h4; omega
    · intro i hi1 hi2
      rw [Array.getElem_append]
      split
      · next hlt => have := h5 i hlt; rw [Array.getElem?_eq_getElem hi1, Array.getElem?_eq_getElem hlt] at this; exact Option.some.inj this
      · next hge =>
        rw [Array.getElem_extract]
        congr 1; omega
  unfold grow World.drewN
  simp only at h1 h2 h3 hd hh ⊢
  subst h1 h2 h3
  rw [← hh]
  congr 1
  omega
theorem Gr.ext {w w' : World} (h : Gr w w') : Ext w w' := by
  obtain ⟨q, os, rfl⟩ := h
  refine ⟨rfl, rfl, rfl, ?_, fun k hk => ?_⟩
  · simp [grow, World.drewN]
  · simp only [grow, World.drewN]
    rw [Array.getElem?_append_left hk]
theorem Gr.drawn {w w' : World} (h : Gr w w') : w.drawn ≤ w'.drawn := by
  obtain ⟨q, os, rfl⟩ := h
  exact Nat.le_add_right _ _
theorem Gr.refl (w : World) : Gr w w := gr_of (Ext.refl w) (Nat.le_refl _)
theorem Gr.trans {a b c : World} (h : Gr a b) (k : Gr b c) : Gr a c := gr_of (h.ext.trans k.ext) (Nat.le_trans h.drawn k.drawn)
theorem Gr.alloc {a w : World} (h : Gr a w) (o : Obj) : Gr a (w.alloc o) := gr_of (h.ext.alloc o) h.drawn
theorem Gr.drewN {a w : World} (h : Gr a w) (n : Nat) : Gr a (w.drewN n) := gr_of (h.ext.drewN n) (Nat.le_trans h.drawn (Nat.le_add_right _ _))
theorem Gr.drew {a w : World} (h : Gr a w) : Gr a w.drew := gr_of h.ext.drew (Nat.le_trans h.drawn (Nat.le_add_right _ 1))
theorem or_two_new (W : World) (c0 c1 : Int) : Calls Tryz.prog 169 #[.slice (some ⟨W.heap.size, 0, none⟩) 2 2] (W.alloc (.cells #[.int .i64 c0, .int .i64 c1] 3)).drew fun e w' => e = .returned (.int .i64 (if c0 = 0 then c1 else c0)) ∧ (W.alloc (.cells #[.int .i64 c0, .int .i64 c1] 3)).drew = w' :=
  have h := heap_alloc_at W #[.int .i64 c0, .int .i64 c1] 3 W.heap.size rfl
  or_two _ _ _ _ (cell_of h (i := 0) rfl) (cell_of h (i := 1) rfl)
theorem lb_or (n s n' s' : Int) : decide ((if Lib.compareInt n n' = 0 then Lib.compareInt s s' else Lib.compareInt n n') < 0) = decide (LbLt n s n' s') := by
  apply decide_eq_decide.2
  unfold Lib.compareInt LbLt
  by_cases h1 : n < n'
  · simp [h1]
  · by_cases h2 : n' < n
    · simp [h1, h2]; omega
    · have e : n = n' := by omega
      subst e
      by_cases h3 : s < s'
      · simp [h3]
      · by_cases h4 : s' < s <;> simp [h3, h4]
set_option maxHeartbeats 4000000 in
set_option maxRecDepth 100000 in
theorem less_any (n s n' s' : Int) (w : World) : Calls Tryz.prog 143 #[.agg #[.int .i64 n, .int .i64 s], .agg #[.int .i64 n', .int .i64 s']] w fun e w' => e = .returned (.bool (decide (LbLt n s n' s'))) ∧ Gr w w' := by
  obtain ⟨b1, hb1⟩ : ∃ b1, w.heap.size = b1 := ⟨_, rfl⟩
  obtain ⟨r, hr⟩ : ∃ r, decide (LbLt n s n' s') = r := ⟨_, rfl⟩
  rw [hr]
  have HR := Lib.hid hr
  clear hr
  go_enter Tryz.func143, Tryz.ntmps143
  go_upto_region 1 with (fail)
  obtain ⟨W1, hW1⟩ : ∃ W1, (w.alloc (.cells #[.int .i64 n, .int .i64 s] 64)).alloc (.cells #[.int .i64 n', .int .i64 s'] 64) = W1 := ⟨_, rfl⟩
  rw [hW1]
  have hX0 : Gr w W1 := by rw [← hW1]; exact ((Gr.refl w).alloc _).alloc _
  have hB1 : W1.heap[b1]? = some (.cells #[.int .i64 n, .int .i64 s] 64 (0, 0)) := by
    rw [← hW1, ← hb1, heap_alloc_old _ _ _ (by simp)]
    exact heap_alloc_at _ _ _ _ rfl
  have hB2 : W1.heap[b1 + 1]? = some (.cells #[.int .i64 n', .int .i64 s'] 64 (0, 0)) := by
    rw [← hW1, ← hb1]
    exact heap_alloc_at _ _ _ _ (by simp)
  have l1 := lt_of_block hB1
  have l2 := lt_of_block hB2
  have HX0 := Lib.hid hX0
  have HQ := Lib.hid (fun X (hX : Gr W1 X) => (show X.cell? ⟨b1, 0, none⟩ = some (.int .i64 n) ∧ X.cell? ⟨b1, 1, none⟩ = some (.int .i64 s) ∧ X.cell? ⟨b1 + 1, 0, none⟩ = some (.int .i64 n') ∧ X.cell? ⟨b1 + 1, 1, none⟩ = some (.int .i64 s') from
    have h9 := (hX.ext.block _ l1).trans hB1
    have h8 := (hX.ext.block _ l2).trans hB2
    ⟨cell_of h9 (i := 0) rfl, cell_of h9 (i := 1) rfl, cell_of h8 (i := 0) rfl, cell_of h8 (i := 1) rfl⟩))
  have hcur : Gr W1 W1.drew := (Gr.refl _).drew
  clear hX0 hB1 hB2 l1 l2 hb1 hW1
  by_cases hE : n = n' ∧ s = s'
  · obtain ⟨rfl, rfl⟩ := hE
    have HF := Lib.hid (show r = false by rw [← HR.out]; simp [LbLt])
    obtain ⟨q0, q1, q2, q3⟩ := HQ.out _ (Gr.refl W1)
    go_quiet (fail)
    go_wp2_with fail
    go_ret
    exact ⟨by rw [HF.out]; rfl, HX0.out.trans ((Gr.refl _).drewN _)⟩
  · obtain ⟨v, hv⟩ : ∃ v, (if Lib.compareInt n n' = 0 then Lib.compareInt s s' else Lib.compareInt n n') = v := ⟨_, rfl⟩
    have HF := Lib.hid (show decide (v < 0) = r by rw [← hv, lb_or]; exact HR.out)
    have HO := Lib.hid (fun W => or_two_new W (Lib.compareInt n n') (Lib.compareInt s s'))
    rw [hv] at HO
    have HC := Lib.hid Tryz.cmp_Compare_int
    clear hv
    by_cases d1 : n = n'
    · have d2 : (s == s') = false := by simpa using fun e => hE ⟨d1, e⟩
      subst d1
      clear hE
      go_region_held3 (fun W => W.cell? ⟨b1, 0, none⟩ = some (.int .i64 n) ∧ W.cell? ⟨b1, 1, none⟩ = some (.int .i64 s) ∧ W.cell? ⟨b1 + 1, 0, none⟩ = some (.int .i64 n) ∧ W.cell? ⟨b1 + 1, 1, none⟩ = some (.int .i64 s')) (first | exact HQ.out _ hcur | exact HQ.out _ ((Gr.refl _).alloc _).drew) (first
        | (go_at_call 142; refine (HC.out _ _ _).mono ?_; rintro e w9 ⟨rfl, rfl⟩)
        | (go_at_call 169; refine (HO.out _).mono ?_; rintro e w9 ⟨rfl, rfl⟩))
      all_goals
        go_wp2_with fail
        go_ret
        exact ⟨by rw [← HF.out]; rfl, HX0.out.trans ((Gr.refl _).alloc _).drew⟩
    · have d2 : (n == n') = false := by simpa using d1
      clear hE d1
      go_region_held3 (fun W => W.cell? ⟨b1, 0, none⟩ = some (.int .i64 n) ∧ W.cell? ⟨b1, 1, none⟩ = some (.int .i64 s) ∧ W.cell? ⟨b1 + 1, 0, none⟩ = some (.int .i64 n') ∧ W.cell? ⟨b1 + 1, 1, none⟩ = some (.int .i64 s')) (first | exact HQ.out _ hcur | exact HQ.out _ ((Gr.refl _).alloc _).drew) (first
        | (go_at_call 142; refine (HC.out _ _ _).mono ?_; rintro e w9 ⟨rfl, rfl⟩)
        | (go_at_call 169; refine (HO.out _).mono ?_; rintro e w9 ⟨rfl, rfl⟩))
      all_goals
        go_wp2_with fail
        go_ret
        exact ⟨by rw [← HF.out]; rfl, HX0.out.trans ((Gr.refl _).alloc _).drew⟩
end Go.Proofs.YtdbnddmncbjobaaGreatDoor

/- compare: walked. -/
namespace Go.Proofs.YtdbnddmncbjobaaGreatDoor
open Go Go.RowKit Go.Sort
attribute [local go_sem] Oper.semAt_some

def cCmp (a b : Ct) : Int := if CLt a b then -1 else if CLt b a then 1 else 0
theorem cCmp_lt (a b : Ct) : cCmp a b < 0 ↔ CLt a b := by
  unfold cCmp
  by_cases h : CLt a b
  · simp [h]
  · by_cases h2 : CLt b a <;> simp [h, h2]
theorem cmpI_eq (x y : Int) : Lib.compareInt x y = if x < y then -1 else if y < x then 1 else 0 := rfl
theorem cCmp_br {a b : Ct} (h : a.br ≠ b.br) : cCmp a b = Lib.compareInt a.br b.br := by
  rw [cmpI_eq]
  unfold cCmp
  have e1 : CLt a b ↔ a.br < b.br := by unfold CLt; omega
  have e2 : CLt b a ↔ b.br < a.br := by unfold CLt; omega
  simp only [e1, e2]
theorem cCmp_l1 {a b : Ct} (h : a.br = b.br) (h1 : LbLt a.nu a.su b.nu b.su) : cCmp a b = -1 := by
  unfold cCmp
  rw [if_pos (by unfold CLt; unfold LbLt at h1; omega)]
theorem cCmp_l2 {a b : Ct} (h : a.br = b.br) (h1 : LbLt b.nu b.su a.nu a.su) : cCmp a b = 1 := by
  unfold cCmp
  rw [if_neg (by unfold CLt; unfold LbLt at h1; omega), if_pos (by unfold CLt; unfold LbLt at h1; omega)]
theorem cCmp_li {a b : Ct} (h : a.br = b.br) (h1 : ¬ LbLt a.nu a.su b.nu b.su) (h2 : ¬ LbLt b.nu b.su a.nu a.su) : cCmp a b = Lib.compareInt a.li b.li := by
  rw [cmpI_eq]
  unfold cCmp
  have e1 : CLt a b ↔ a.li < b.li := by unfold CLt; unfold LbLt at h1 h2; omega
  have e2 : CLt b a ↔ b.li < a.li := by unfold CLt; unfold LbLt at h1 h2; omega
  simp only [e1, e2]
set_option maxHeartbeats 400000 in
set_option maxRecDepth 100000 in
theorem compare_any (a b : Ct) (w : World) : Calls Tryz.prog 112 #[ctV a, ctV b] w fun e w' => e = .returned (.int .i64 (cCmp a b)) ∧ Gr w w' := by
  obtain ⟨v, hv⟩ : ∃ v, cCmp a b = v := ⟨_, rfl⟩
  rw [hv]
  obtain ⟨r1, n1, s1, l1⟩ := a
  obtain ⟨r2, n2, s2, l2⟩ := b
  unfold ctV
  have HC := Lib.hid Tryz.cmp_Compare_int
  obtain ⟨b1, hb1⟩ : ∃ b1, w.heap.size = b1 := ⟨_, rfl⟩
  have HV := Lib.hid hv
  clear hv
  have HL1 := Lib.hid (fun W => less_any n1 s1 n2 s2 W)
  have HL2 := Lib.hid (fun W => less_any n2 s2 n1 s1 W)
  go_enter Tryz.func112, Tryz.ntmps112
  go_upto_region 1 with (fail)
  obtain ⟨W1, hW1⟩ : ∃ W1, (w.alloc (.cells #[.int .i64 r1, .int .i64 n1, .int .i64 s1, .int .i64 l1] 69)).alloc (.cells #[.int .i64 r2, .int .i64 n2, .int .i64 s2, .int .i64 l2] 69) = W1 := ⟨_, rfl⟩
  rw [hW1]
  have hX0 : Gr w W1 := by rw [← hW1]; exact ((Gr.refl w).alloc _).alloc _
  have hB1 : W1.heap[b1]? = some (.cells #[.int .i64 r1, .int .i64 n1, .int .i64 s1, .int .i64 l1] 69 (0, 0)) := by
    rw [← hW1, ← hb1, heap_alloc_old _ _ _ (by simp)]
    exact heap_alloc_at _ _ _ _ rfl
  have hB2 : W1.heap[b1 + 1]? = some (.cells #[.int .i64 r2, .int .i64 n2, .int .i64 s2, .int .i64 l2] 69 (0, 0)) := by
    rw [← hW1, ← hb1]
    exact heap_alloc_at _ _ _ _ (by simp)
  have k1 := lt_of_block hB1
  have k2 := lt_of_block hB2
  have HX0 := Lib.hid hX0
  have HQ := Lib.hid (fun X (hX : Gr W1 X) => (show (X.cell? ⟨b1, 0, none⟩ = some (.int .i64 r1) ∧ X.cell? ⟨b1, 1, none⟩ = some (.int .i64 n1) ∧ X.cell? ⟨b1, 2, none⟩ = some (.int .i64 s1) ∧ X.cell? ⟨b1, 3, none⟩ = some (.int .i64 l1)) ∧
      (X.cell? ⟨b1 + 1, 0, none⟩ = some (.int .i64 r2) ∧ X.cell? ⟨b1 + 1, 1, none⟩ = some (.int .i64 n2) ∧ X.cell? ⟨b1 + 1, 2, none⟩ = some (.int .i64 s2) ∧ X.cell? ⟨b1 + 1, 3, none⟩ = some (.int .i64 l2)) from
    have h9 := (hX.ext.block _ k1).trans hB1
    have h8 := (hX.ext.block _ k2).trans hB2
    ⟨⟨cell_of h9 (i := 0) rfl, cell_of h9 (i := 1) rfl, cell_of h9 (i := 2) rfl, cell_of h9 (i := 3) rfl⟩, ⟨cell_of h8 (i := 0) rfl, cell_of h8 (i := 1) rfl, cell_of h8 (i := 2) rfl, cell_of h8 (i := 3) rfl⟩⟩))
  obtain ⟨⟨q0, q1, q2, q3⟩, ⟨t0, t1, t2, t3⟩⟩ := HQ.out _ (Gr.refl W1)
  clear hX0 hB1 hB2 k1 k2 hb1 hW1
  by_cases hr : r1 = r2
  case neg =>
    have d1 : (r1 != r2) = true := by simpa using hr
    have HF := Lib.hid ((cCmp_br (a := ⟨r1, n1, s1, l1⟩) (b := ⟨r2, n2, s2, l2⟩) hr).symm.trans HV.out)
    clear hr
    go_wp2_with (go_at_call 142; refine (HC.out _ _ _).mono ?_; rintro e w9 ⟨rfl, rfl⟩)
    go_ret
    exact ⟨ret_i HF.out, HX0.out⟩
  have d1 : (r1 != r2) = false := by simpa using hr
  by_cases h1 : LbLt n1 s1 n2 s2
  · have g1 : decide (LbLt n1 s1 n2 s2) = true := by simpa using h1
    rw [g1] at HL1
    have HF := Lib.hid ((cCmp_l1 (a := ⟨r1, n1, s1, l1⟩) (b := ⟨r2, n2, s2, l2⟩) hr h1).symm.trans HV.out)
    clear hr h1 g1
    go_wp2_with (go_at_call 143; refine (HL1.out _).mono ?_; rintro e w9 ⟨rfl, hG⟩)
    go_ret
    exact ⟨ret_i HF.out, HX0.out.trans hG⟩
  have g1 : decide (LbLt n1 s1 n2 s2) = false := by simpa using h1
  rw [g1] at HL1
  by_cases h2 : LbLt n2 s2 n1 s1
  · have g2 : decide (LbLt n2 s2 n1 s1) = true := by simpa using h2
    rw [g2] at HL2
    have HF := Lib.hid ((cCmp_l2 (a := ⟨r1, n1, s1, l1⟩) (b := ⟨r2, n2, s2, l2⟩) hr h2).symm.trans HV.out)
    clear hr h1 h2 g1 g2
    go_wp2_with (first
      | (go_at_call 143; have _t := HL1; refine (HL1.out _).mono ?_; rintro e w9 ⟨rfl, hG⟩; obtain ⟨⟨q0, q1, q2, q3⟩, ⟨t0, t1, t2, t3⟩⟩ := HQ.out _ hG; have HG := Lib.hid hG; clear hG HL1 _t)
      | (go_at_call 143; refine (HL2.out _).mono ?_; rintro e w8 ⟨rfl, hG⟩; have HG2 := Lib.hid hG; clear hG))
    go_ret
    exact ⟨ret_i HF.out, (HX0.out.trans HG.out).trans HG2.out⟩
  · have g2 : decide (LbLt n2 s2 n1 s1) = false := by simpa using h2
    rw [g2] at HL2
    have HF := Lib.hid ((cCmp_li (a := ⟨r1, n1, s1, l1⟩) (b := ⟨r2, n2, s2, l2⟩) hr h1 h2).symm.trans HV.out)
    clear hr h1 h2 g1 g2
    go_wp2_with (first
      | (go_at_call 143; have _t := HL1; refine (HL1.out _).mono ?_; rintro e w9 ⟨rfl, hG⟩; obtain ⟨⟨q0, q1, q2, q3⟩, ⟨t0, t1, t2, t3⟩⟩ := HQ.out _ hG; have HG := Lib.hid hG; clear hG HL1 _t)
      | (go_at_call 143; refine (HL2.out _).mono ?_; rintro e w8 ⟨rfl, hG⟩; obtain ⟨⟨q0, q1, q2, q3⟩, ⟨t0, t1, t2, t3⟩⟩ := HQ.out _ (HG.out.trans hG); have HG2 := Lib.hid hG; clear hG)
      | (go_at_call 142; refine (HC.out _ _ _).mono ?_; rintro e w9 ⟨rfl, rfl⟩))
    go_ret
    exact ⟨ret_i HF.out, (HX0.out.trans HG.out).trans HG2.out⟩
end Go.Proofs.YtdbnddmncbjobaaGreatDoor

/- A map of rows of places. -/
namespace Go.Proofs.YtdbnddmncbjobaaGreatDoor
open Go Go.RowKit Go.Maps

def kCt : Lay Ct := (kInt.pair (kInt.pair (kInt.pair kInt))).via fun c => (c.br, c.nu, c.su, c.li)
theorem kCt_rep {W : World} {P : Nat → Prop} {c : Ct} {cs : List Value} : kCt.rep W P c cs ↔ cs = [.int .i64 c.br, .int .i64 c.nu, .int .i64 c.su, .int .i64 c.li] := by
  constructor
  · rintro ⟨_, _, rfl, rfl, _, _, rfl, rfl, _, _, rfl, rfl, rfl⟩; rfl
  · rintro rfl; exact ⟨_, _, rfl, rfl, _, _, rfl, rfl, _, _, rfl, rfl, rfl⟩
abbrev DV := DataW Value
/-- An element of the map is read as it stands. -/
def rV (v : Value) : Option (DV × List MemPlace) := some (.held v, [])
theorem lawS : Keyed Tryz.prog 9 := string_keyed Tryz.underlying9
theorem keyS {s : List UInt8} (h : s.length ≤ maxLen) : keyOf Tryz.prog 9 (.string ⟨s.toArray⟩) = some (.string s) := by
  have := WideMaps.keyOf_string_mk (P := Tryz.prog) (k := 9) Tryz.underlying9 (s := ⟨s.toArray⟩) (by simpa [ByteArray.size] using h)
  simpa using this
theorem keyLit {s : List UInt8} (h : s.length ≤ maxLen) : WideAt.IsKeyLit (.string s) := lawS.key (keyS h)
/-- The places of a key. -/
def csOf (hs : List (List UInt8 × Ct)) (k : List UInt8) : List Ct := hs.filterMap fun h => if h.1 = k then some h.2 else none
theorem csOf_append (hs hs' : List (List UInt8 × Ct)) (k : List UInt8) : csOf (hs ++ hs') k = csOf hs k ++ csOf hs' k := by unfold csOf; rw [List.filterMap_append]
theorem csOf_same (k : List UInt8) (ys : List Ct) : csOf (ys.map fun c => (k, c)) k = ys := by
  induction ys with
  | nil => rfl
  | cons y ys ih => unfold csOf at ih ⊢; simp [ih]
theorem csOf_other {k k' : List UInt8} (h : k ≠ k') (ys : List Ct) : csOf (ys.map fun c => (k, c)) k' = [] := by
  induction ys with
  | nil => rfl
  | cons y ys ih => unfold csOf at ih ⊢; simp [h]
theorem mem_csOf (hs : List (List UInt8 × Ct)) (k : List UInt8) (c : Ct) : c ∈ csOf hs k ↔ (k, c) ∈ hs := by
  unfold csOf
  simp only [List.mem_filterMap, Option.ite_none_right_eq_some, Option.some.injEq, Prod.exists]
  constructor
  · rintro ⟨a, b, h, rfl, rfl⟩; exact h
  · intro h; exact ⟨k, c, h, rfl, rfl⟩
def AtK (D : DV) (k : List UInt8) (v : Value) : Prop := ∀ z, D.atKey (.string k) z = .held v
theorem AtK.one {D : DV} {k : List UInt8} {v v' : Value} (h : AtK D k v) (h' : AtK D k v') : v = v' := by
  have := (h .nil).symm.trans (h' .nil)
  injection this
/-- Block b is a map from keys to rows of the places that came with them, each in a block of its own from B on. -/
structure GMap (B b n : Nat) (hs : List (List UInt8 × Ct)) (D : DV) (W : World) : Prop where
  own : W.ownsMap Tryz.prog 9 rV b n D
  lt : b < B
  key : ∀ h ∈ hs, h.1.length ≤ maxLen
  has : ∀ k, has D (.string k) = true ↔ csOf hs k ≠ []
  row : ∀ k, csOf hs k ≠ [] → ∃ v, AtK D k v ∧ kCt.own 69 W B (fun _ => False) v (csOf hs k)
  ap : ∀ k k' v v', k ≠ k' → csOf hs k ≠ [] → csOf hs k' ≠ [] → AtK D k v → AtK D k' v' → ∀ j, v.ownBlock = some j → v'.ownBlock ≠ some j
theorem GMap.made (W : World) : GMap (W.heap.size + 1) W.heap.size 0 [] (.map []) (W.alloc (.map #[] 0)) where
  own := World.ownsMap_made W Tryz.prog 9 rV
  lt := Nat.lt_succ_self _
  key h hh := by cases hh
  has k := by simp [csOf, Maps.has]
  row k h := absurd rfl h
  ap k _ _ _ _ h := absurd rfl h
theorem GMap.keep {B b n : Nat} {hs : List (List UInt8 × Ct)} {D : DV} {W W' : World} (h : GMap B b n hs D W) (hg : W.grownBy W' none) : GMap B b n hs D W' :=
  ⟨h.own.kept hg (by simp), h.lt, h.key, h.has, fun k hk => by
    obtain ⟨v, h1, h2⟩ := h.row k hk
    exact ⟨v, h1, Lay.own_keep h2 hg.size fun j _ hj => hg.block j hj (by simp)⟩, h.ap⟩
theorem GMap.look {B b n : Nat} {hs : List (List UInt8 × Ct)} {D : DV} {W : World} (h : GMap B b n hs D W) {k : List UInt8} (hk : k.length ≤ maxLen) :
    ∃ v, (Instr.lookup 105 (.map (some b)) (.string ⟨k.toArray⟩) false).run Tryz.prog W = .ok v W ∧ kCt.own 69 W B (fun _ => False) v (csOf hs k) ∧
      ∀ k' v', k ≠ k' → csOf hs k' ≠ [] → AtK D k' v' → ∀ j, v.ownBlock = some j → v'.ownBlock ≠ some j := by
  obtain ⟨v, ps, hrun, hv⟩ := h.own.lookup (t := 105) (e := 38) lawS Tryz.underlying105 (z := .slice none 0 0) (Tryz.zeroValue38 W) (zd := .held (.slice none 0 0)) (zp := []) rfl (keyS hk)
  refine ⟨v, hrun, ?_⟩
  have e1 : D.atKey (.string k) (.held (.slice none 0 0)) = .held v := by
    unfold rV at hv; simp only [Option.some.injEq, Prod.mk.injEq] at hv; exact hv.1.symm
  by_cases hc : csOf hs k = []
  · have hf : Maps.has D (.string k) = false := by
      cases h9 : Maps.has D (.string k)
      · rfl
      · exact absurd hc ((h.has k).1 h9)
    rw [atKey_of_not_has hf] at e1
    injection e1 with e1
    subst e1
    rw [hc]
    exact ⟨Lay.own_nil _ _ _ _ _, fun _ _ _ _ _ j hj => by simp [Value.ownBlock] at hj⟩
  · obtain ⟨v2, h2, h3⟩ := h.row k hc
    rw [h2] at e1
    injection e1 with e1
    subst e1
    exact ⟨h3, fun k' v' hne hk' hv' => h.ap k k' v2 v' hne hc hk' h2 hv'⟩
/-- The row v of the key k has been put into another state, or moved: the map with it at k. -/
theorem GMap.store {B b n : Nat} {hs : List (List UInt8 × Ct)} {D : DV} {W W1 : World} (h : GMap B b n hs D W) {k : List UInt8} (hk : k.length ≤ maxLen) (hn : n < maxLen) {v v' : Value} {ys : List Ct} (hy : ys ≠ [])
    (hv : ∀ k' v', k ≠ k' → csOf hs k' ≠ [] → AtK D k' v' → ∀ j, v.ownBlock = some j → v'.ownBlock ≠ some j) (hvB : ∀ j, v.ownBlock = some j → B ≤ j)
    (hs1 : W.heap.size ≤ W1.heap.size) (hk1 : ∀ j, j < W.heap.size → v.ownBlock ≠ some j → W1.heap[j]? = W.heap[j]?)
    (hv' : kCt.own 69 W1 B (fun _ => False) v' (csOf hs k ++ ys)) (hl : ∀ j, v'.ownBlock = some j → v.ownBlock = some j ∨ W.heap.size ≤ j) :
    ∃ W2, (Instr.mapUpdate 105 (.map (some b)) (.string ⟨k.toArray⟩) v').run Tryz.prog W1 = .ok () W2 ∧ GMap B b (n + 1) (hs ++ ys.map fun c => (k, c)) (D.put (.string k) (.held v')) W2 ∧ W1.grownBy W2 (some b) := by
  have hbl := h.own.lt
  have hown1 : W1.ownsMap Tryz.prog 9 rV b n D := by
    obtain ⟨es, clock, hb, F, hsz, hD⟩ := h.own
    refine ⟨es, clock, (hk1 b hbl fun e => ?_).trans hb, F, hsz, hD⟩
    have := hvB b e
    have := h.lt
    omega
  obtain ⟨W2, hrun, hown2, hg⟩ := hown1.update (t := 105) (e := 38) lawS Tryz.underlying105 hn (key := .string ⟨k.toArray⟩) (val := v') (kl := .string k) (d := .held v') (ps := []) (keyS hk) rfl
  have hm : IsMap D := by obtain ⟨es, _, _, _, _, rfl⟩ := h.own; exact ⟨_, rfl⟩
  have hne : ∀ {k' : List UInt8}, k ≠ k' → Lit.string k' ≠ Lit.string k := fun hne e => hne (Lit.string.inj e).symm
  have hcs : ∀ {k' : List UInt8}, k ≠ k' → csOf (hs ++ ys.map fun c => (k, c)) k' = csOf hs k' := fun hne => by rw [csOf_append, csOf_other hne, List.append_nil]
  have hck : csOf (hs ++ ys.map fun c => (k, c)) k = csOf hs k ++ ys := by rw [csOf_append, csOf_same]
  have hput : AtK (D.put (.string k) (.held v')) k v' := fun z => atKey_put_same hm (keyLit hk) _ _
  have hoth : ∀ {k' : List UInt8} {u : Value}, k ≠ k' → (AtK (D.put (.string k) (.held v')) k' u ↔ AtK D k' u) := fun hn' => by
    unfold AtK; simp only [atKey_put_other (hne hn')]
  have hnb : ∀ {u : Value} {cs : List Ct} {X : World}, kCt.own 69 X B (fun _ => False) u cs → ∀ j, u.ownBlock = some j → j ≠ b := fun ho j hj e => by
    have := (Lay.own_lt ho j hj).1; have := h.lt; omega
  refine ⟨W2, hrun, ⟨hown2, h.lt, fun x hx => ?_, fun k' => ?_, fun k' hk' => ?_, fun k1 k2 v1 v2 h12 h1 h2 a1 a2 => ?_⟩, hg⟩
  · rcases List.mem_append.1 hx with hx | hx
    · exact h.key x hx
    · obtain ⟨c, _, rfl⟩ := List.mem_map.1 hx; exact hk
  · by_cases e : k = k'
    · subst e
      rw [has_put_same hm (keyLit hk), hck]
      simp [hy]
    · rw [has_put_other (hne e), hcs e, h.has]
  · by_cases e : k = k'
    · subst e
      refine ⟨v', hput, ?_⟩
      rw [hck]
      exact Lay.own_keep hv' hg.size fun j hj hjl => hg.block j hjl (by
        rcases hj with hj | hj
        · exact hj.elim
        · intro e; injection e with e; exact hnb hv' j hj e)
    · rw [hcs e] at hk' ⊢
      obtain ⟨u, h1, h2⟩ := h.row k' hk'
      refine ⟨u, (hoth e).2 h1, ?_⟩
      have h3 : kCt.own 69 W1 B (fun _ => False) u (csOf hs k') := Lay.own_keep h2 hs1 fun j hj hjl => hk1 j hjl (by
        rcases hj with hj | hj
        · exact hj.elim
        · intro e9; exact hv k' u e hk' h1 j e9 hj)
      exact Lay.own_keep h3 hg.size fun j hj hjl => hg.block j hjl (by
        rcases hj with hj | hj
        · exact hj.elim
        · intro e; injection e with e; exact hnb h3 j hj e)
  · have key : ∀ {k' : List UInt8} {u : Value}, k ≠ k' → csOf hs k' ≠ [] → AtK D k' u → ∀ j, v'.ownBlock = some j → u.ownBlock ≠ some j := fun {k' u} hn' hc ha j hj hu => by
      rcases hl j hj with h9 | h9
      · exact hv k' u hn' hc ha j h9 hu
      · obtain ⟨u2, b1, b2⟩ := h.row k' hc
        rw [AtK.one ha b1] at hu
        have := (Lay.own_lt b2 j hu).2
        omega
    by_cases e1 : k = k1
    · subst e1
      rw [hcs h12] at h2
      rw [hoth h12] at a2
      rw [AtK.one a1 hput]
      exact key h12 h2 a2
    · by_cases e2 : k = k2
      · subst e2
        rw [hcs e1] at h1
        rw [hoth e1] at a1
        rw [AtK.one a2 hput]
        exact fun j hj hu => key e1 h1 a1 j hu hj
      · rw [hcs e1] at h1
        rw [hcs e2] at h2
        exact h.ap k1 k2 v1 v2 h12 h1 h2 ((hoth e1).1 a1) ((hoth e2).1 a2)
end Go.Proofs.YtdbnddmncbjobaaGreatDoor

/- strings.Compare and slices.SortFunc of places and of items, laid (print of lay-plain.mjs). -/
namespace Go.Proofs
open Go.Shelf
def Tryz.lays106u_ren : Go.Shelf.Ren := ⟨fun | 106 => 68 | 213 => 122 | 265 => 147 | n => n, fun | 9 => 9 | 3 => 3 | n => n, fun | n => n⟩
theorem Tryz.lays106u : Go.Proofs.Lays.n106 Tryz.prog Tryz.lays106u_ren := {
  mixed := by kernel_rfl
  f106 := Tryz.func68.trans (congrArg some (by kernel_rfl))
  f213 := Tryz.func122.trans (congrArg some (by kernel_rfl))
  f265 := Tryz.func147.trans (congrArg some (by kernel_rfl))
  t3 := Tryz.underlying3
  a3 := Tryz.isAgg3
  z3 := Tryz.sizeOf3
  v3 := Tryz.zeroValue3
  t9 := Tryz.underlying9
  a9 := Tryz.isAgg9
  z9 := Tryz.sizeOf9
  v9 := Tryz.zeroValue9 }
def Tryz.sortCt_ren : Go.Shelf.Ren := ⟨fun | 6 => 111 | 15 => 141 | 14 => 140 | 28 => 166 | 29 => 167 | 20 => 158 | 21 => 159 | 22 => 160 | 23 => 161 | 24 => 162 | 25 => 163 | 26 => 164 | 27 => 165 | 46 => 201 | 47 => 202 | 48 => 203 | 49 => 204 | 50 => 205 | 57 => 232 | n => n, fun | 22 => 38 | 24 => 69 | 25 => 165 | 3 => 3 | 39 => 174 | 0 => 0 | 53 => 182 | 55 => 214 | 4 => 4 | 46 => 207 | 45 => 206 | 50 => 114 | 5 => 5 | 9 => 9 | 66 => 241 | 70 => 245 | 76 => 269 | 77 => 270 | n => n, fun | n => n⟩
theorem Tryz.sortCt : Go.Proofs.SlLaysF0.n6 Tryz.prog Tryz.sortCt_ren := {
  mixed := by kernel_rfl
  f6 := ⟨Tryz.f111.name, by decide, Tryz.func111.trans (congrArg some (by kernel_rfl))⟩
  f14 := ⟨Tryz.f140.name, by decide, Tryz.func140.trans (congrArg some (by kernel_rfl))⟩
  f15 := Tryz.func141.trans (congrArg some (by kernel_rfl))
  f20 := ⟨Tryz.f158.name, by decide, Tryz.func158.trans (congrArg some (by kernel_rfl))⟩
  f21 := ⟨Tryz.f159.name, by decide, Tryz.func159.trans (congrArg some (by kernel_rfl))⟩
  f22 := ⟨Tryz.f160.name, by decide, Tryz.func160.trans (congrArg some (by kernel_rfl))⟩
  f23 := ⟨Tryz.f161.name, by decide, Tryz.func161.trans (congrArg some (by kernel_rfl))⟩
  f24 := ⟨Tryz.f162.name, by decide, Tryz.func162.trans (congrArg some (by kernel_rfl))⟩
  f25 := ⟨Tryz.f163.name, by decide, Tryz.func163.trans (congrArg some (by kernel_rfl))⟩
  f26 := ⟨Tryz.f164.name, by decide, Tryz.func164.trans (congrArg some (by kernel_rfl))⟩
  f27 := ⟨Tryz.f165.name, by decide, Tryz.func165.trans (congrArg some (by kernel_rfl))⟩
  f28 := Tryz.func166.trans (congrArg some (by kernel_rfl))
  f29 := Tryz.func167.trans (congrArg some (by kernel_rfl))
  f46 := ⟨Tryz.f201.name, by decide, Tryz.func201.trans (congrArg some (by kernel_rfl))⟩
  f47 := Tryz.func202.trans (congrArg some (by kernel_rfl))
  f48 := Tryz.func203.trans (congrArg some (by kernel_rfl))
  f49 := ⟨Tryz.f204.name, by decide, Tryz.func204.trans (congrArg some (by kernel_rfl))⟩
  f50 := ⟨Tryz.f205.name, by decide, Tryz.func205.trans (congrArg some (by kernel_rfl))⟩
  f57 := ⟨Tryz.f232.name, by decide, Tryz.func232.trans (congrArg some (by kernel_rfl))⟩
  t0 := Tryz.underlying0
  a0 := Tryz.isAgg0
  z0 := Tryz.sizeOf0
  v0 := Tryz.zeroValue0
  t3 := Tryz.underlying3
  a3 := Tryz.isAgg3
  z3 := Tryz.sizeOf3
  v3 := Tryz.zeroValue3
  t4 := Tryz.underlying4
  a4 := Tryz.isAgg4
  z4 := Tryz.sizeOf4
  v4 := Tryz.zeroValue4
  t5 := Tryz.underlying5
  a5 := Tryz.isAgg5
  z5 := Tryz.sizeOf5
  v5 := Tryz.zeroValue5
  t9 := Tryz.underlying9
  a9 := Tryz.isAgg9
  z9 := Tryz.sizeOf9
  v9 := Tryz.zeroValue9
  t22 := Tryz.underlying38
  a22 := Tryz.isAgg38
  z22 := Tryz.sizeOf38
  v22 := Tryz.zeroValue38
  t25 := Tryz.underlying165
  a25 := Tryz.isAgg165
  z25 := Tryz.sizeOf165
  v25 := Tryz.zeroValue165
  t39 := Tryz.underlying174
  a39 := Tryz.isAgg174
  z39 := Tryz.sizeOf174
  v39 := Tryz.zeroValue174
  t45 := Tryz.underlying206
  a45 := Tryz.isAgg206
  z45 := Tryz.sizeOf206
  v45 := Tryz.zeroValue206
  t46 := Tryz.underlying207
  a46 := Tryz.isAgg207
  z46 := Tryz.sizeOf207
  v46 := Tryz.zeroValue207
  t50 := Tryz.underlying114
  a50 := Tryz.isAgg114
  z50 := Tryz.sizeOf114
  v50 := Tryz.zeroValue114
  t53 := Tryz.underlying182
  a53 := Tryz.isAgg182
  z53 := Tryz.sizeOf182
  v53 := Tryz.zeroValue182
  t55 := Tryz.underlying214
  a55 := Tryz.isAgg214
  z55 := Tryz.sizeOf214
  v55 := Tryz.zeroValue214
  t66 := Tryz.underlying241
  a66 := Tryz.isAgg241
  z66 := Tryz.sizeOf241
  v66 := Tryz.zeroValue241
  t70 := Tryz.underlying245
  a70 := Tryz.isAgg245
  z70 := Tryz.sizeOf245
  v70 := Tryz.zeroValue245
  t76 := Tryz.underlying269
  a76 := Tryz.isAgg269
  z76 := Tryz.sizeOf269
  v76 := Tryz.zeroValue269
  t77 := Tryz.underlying270
  a77 := Tryz.isAgg270
  z77 := Tryz.sizeOf270
  v77 := Tryz.zeroValue270 }
def Tryz.sortIt_ren : Go.Shelf.Ren := ⟨fun | 6 => 114 | 15 => 141 | 14 => 144 | 28 => 166 | 29 => 167 | 20 => 170 | 21 => 171 | 22 => 172 | 23 => 173 | 24 => 174 | 25 => 175 | 26 => 176 | 27 => 177 | 46 => 206 | 47 => 202 | 48 => 203 | 49 => 207 | 50 => 208 | 57 => 233 | n => n, fun | 22 => 33 | 24 => 99 | 25 => 167 | 3 => 3 | 39 => 174 | 0 => 0 | 53 => 182 | 55 => 214 | 4 => 4 | 46 => 207 | 45 => 206 | 50 => 114 | 5 => 5 | 9 => 9 | 66 => 241 | 70 => 245 | 76 => 269 | 77 => 270 | n => n, fun | n => n⟩
theorem Tryz.sortIt : Go.Proofs.SlLaysF0.n6 Tryz.prog Tryz.sortIt_ren := {
  mixed := by kernel_rfl
  f6 := ⟨Tryz.f114.name, by decide, Tryz.func114.trans (congrArg some (by kernel_rfl))⟩
  f14 := ⟨Tryz.f144.name, by decide, Tryz.func144.trans (congrArg some (by kernel_rfl))⟩
  f15 := Tryz.func141.trans (congrArg some (by kernel_rfl))
  f20 := ⟨Tryz.f170.name, by decide, Tryz.func170.trans (congrArg some (by kernel_rfl))⟩
  f21 := ⟨Tryz.f171.name, by decide, Tryz.func171.trans (congrArg some (by kernel_rfl))⟩
  f22 := ⟨Tryz.f172.name, by decide, Tryz.func172.trans (congrArg some (by kernel_rfl))⟩
  f23 := ⟨Tryz.f173.name, by decide, Tryz.func173.trans (congrArg some (by kernel_rfl))⟩
  f24 := ⟨Tryz.f174.name, by decide, Tryz.func174.trans (congrArg some (by kernel_rfl))⟩
  f25 := ⟨Tryz.f175.name, by decide, Tryz.func175.trans (congrArg some (by kernel_rfl))⟩
  f26 := ⟨Tryz.f176.name, by decide, Tryz.func176.trans (congrArg some (by kernel_rfl))⟩
  f27 := ⟨Tryz.f177.name, by decide, Tryz.func177.trans (congrArg some (by kernel_rfl))⟩
  f28 := Tryz.func166.trans (congrArg some (by kernel_rfl))
  f29 := Tryz.func167.trans (congrArg some (by kernel_rfl))
  f46 := ⟨Tryz.f206.name, by decide, Tryz.func206.trans (congrArg some (by kernel_rfl))⟩
  f47 := Tryz.func202.trans (congrArg some (by kernel_rfl))
  f48 := Tryz.func203.trans (congrArg some (by kernel_rfl))
  f49 := ⟨Tryz.f207.name, by decide, Tryz.func207.trans (congrArg some (by kernel_rfl))⟩
  f50 := ⟨Tryz.f208.name, by decide, Tryz.func208.trans (congrArg some (by kernel_rfl))⟩
  f57 := ⟨Tryz.f233.name, by decide, Tryz.func233.trans (congrArg some (by kernel_rfl))⟩
  t0 := Tryz.underlying0
  a0 := Tryz.isAgg0
  z0 := Tryz.sizeOf0
  v0 := Tryz.zeroValue0
  t3 := Tryz.underlying3
  a3 := Tryz.isAgg3
  z3 := Tryz.sizeOf3
  v3 := Tryz.zeroValue3
  t4 := Tryz.underlying4
  a4 := Tryz.isAgg4
  z4 := Tryz.sizeOf4
  v4 := Tryz.zeroValue4
  t5 := Tryz.underlying5
  a5 := Tryz.isAgg5
  z5 := Tryz.sizeOf5
  v5 := Tryz.zeroValue5
  t9 := Tryz.underlying9
  a9 := Tryz.isAgg9
  z9 := Tryz.sizeOf9
  v9 := Tryz.zeroValue9
  t22 := Tryz.underlying33
  a22 := Tryz.isAgg33
  z22 := Tryz.sizeOf33
  v22 := Tryz.zeroValue33
  t25 := Tryz.underlying167
  a25 := Tryz.isAgg167
  z25 := Tryz.sizeOf167
  v25 := Tryz.zeroValue167
  t39 := Tryz.underlying174
  a39 := Tryz.isAgg174
  z39 := Tryz.sizeOf174
  v39 := Tryz.zeroValue174
  t45 := Tryz.underlying206
  a45 := Tryz.isAgg206
  z45 := Tryz.sizeOf206
  v45 := Tryz.zeroValue206
  t46 := Tryz.underlying207
  a46 := Tryz.isAgg207
  z46 := Tryz.sizeOf207
  v46 := Tryz.zeroValue207
  t50 := Tryz.underlying114
  a50 := Tryz.isAgg114
  z50 := Tryz.sizeOf114
  v50 := Tryz.zeroValue114
  t53 := Tryz.underlying182
  a53 := Tryz.isAgg182
  z53 := Tryz.sizeOf182
  v53 := Tryz.zeroValue182
  t55 := Tryz.underlying214
  a55 := Tryz.isAgg214
  z55 := Tryz.sizeOf214
  v55 := Tryz.zeroValue214
  t66 := Tryz.underlying241
  a66 := Tryz.isAgg241
  z66 := Tryz.sizeOf241
  v66 := Tryz.zeroValue241
  t70 := Tryz.underlying245
  a70 := Tryz.isAgg245
  z70 := Tryz.sizeOf245
  v70 := Tryz.zeroValue245
  t76 := Tryz.underlying269
  a76 := Tryz.isAgg269
  z76 := Tryz.sizeOf269
  v76 := Tryz.zeroValue269
  t77 := Tryz.underlying270
  a77 := Tryz.isAgg270
  z77 := Tryz.sizeOf270
  v77 := Tryz.zeroValue270 }
end Go.Proofs

/- The sorts of places and of items: contracts. -/
namespace Go.Proofs.YtdbnddmncbjobaaGreatDoor
open Go Go.RowKit Go.Sort
attribute [local go_sem] Oper.semAt_some

def ctCs (c : Ct) : List Value := [.int .i64 c.br, .int .i64 c.nu, .int .i64 c.su, .int .i64 c.li]
/-- An item as it lies: its key and the slice of its places. -/
abbrev ItV := List UInt8 × Option Addr × Nat × Nat
instance : Inhabited Ct := ⟨⟨0, 0, 0, 0⟩⟩
theorem strcmp_any (a b : List UInt8) (w : World) : Calls Tryz.prog 68 #[.string ⟨a.toArray⟩, .string ⟨b.toArray⟩] w fun e w' => e = .returned (.int .i64 (Lib.compareBytes a b)) ∧ w' = w :=
  Any.strings_Compare Tryz.lays106u ⟨a.toArray⟩ ⟨b.toArray⟩ w
set_option maxRecDepth 100000 in
theorem itcmp_any (a b : List UInt8) (u v : Value) (w : World) : Calls Tryz.prog 115 #[.agg #[.string ⟨a.toArray⟩, u], .agg #[.string ⟨b.toArray⟩, v]] w fun e w' => e = .returned (.int .i64 (Lib.compareBytes a b)) ∧ Gr w w' := by
  have HC := Lib.hid (fun W => strcmp_any a b W)
  generalize Lib.compareBytes a b = r at HC ⊢
  have HX := Lib.hid (((Gr.refl w).alloc (.cells #[.string ⟨a.toArray⟩, u] 99)).alloc (.cells #[.string ⟨b.toArray⟩, v] 99))
  go_enter Tryz.func115, Tryz.ntmps115
  go_wp2_with (go_at_call 68; refine (HC.out _).mono ?_; rintro e w9 ⟨rfl, rfl⟩)
  go_ret
  exact ⟨rfl, HX.out⟩
theorem swoCt : SWO (ltOf cCmp) where
  irrefl x := by simp only [ltOf, decide_eq_false_iff_not, cCmp_lt]; exact cLt_irrefl x
  trans x y z h1 h2 := by simp only [ltOf, decide_eq_true_eq, cCmp_lt] at *; exact cLt_trans h1 h2
  ntrans x y z h1 h2 := by
    simp only [ltOf, decide_eq_false_iff_not, cCmp_lt] at *
    intro h3
    by_cases e : x = y
    · subst e; exact h2 h3
    · rcases cLt_tri e with h | h
      · exact h1 h
      · exact h2 (cLt_trans h h3)
theorem swoIt : SWO (ltOf fun x y : ItV => Lib.compareBytes x.1 y.1) where
  irrefl x := by simp only [ltOf, decide_eq_false_iff_not, cmpB_lt]; rw [sLt_irrefl]; simp
  trans x y z h1 h2 := by simp only [ltOf, decide_eq_true_eq, cmpB_lt] at *; exact sLt_trans h1 h2
  ntrans x y z h1 h2 := by
    simp only [ltOf, decide_eq_false_iff_not, cmpB_lt] at *
    intro h3
    by_cases e : x.1 = y.1
    · rw [e] at h3; exact h2 h3
    · rcases sLt_tri e with h | h
      · exact h1 h
      · exact h2 (sLt_trans h h3)
def itCs (x : ItV) : List Value := [.string ⟨x.1.toArray⟩, .slice x.2.1 x.2.2.1 x.2.2.2]
theorem cmpLaysCt (blk off size : Nat) (w : World) : CmpLays Tryz.prog 112 #[] ctCs 4 cCmp blk off size w := fun _ _ _ _ x y => compare_any x y _
theorem cmpLaysIt (blk off size : Nat) (w : World) : CmpLays Tryz.prog 115 #[] itCs 2 (fun x y : ItV => Lib.compareBytes x.1 y.1) blk off size w := fun _ _ _ _ x y => itcmp_any x.1 y.1 _ _ _
theorem sort_ct (blk cap : Nat) (d : Array Ct) (w : World) (hH : HoldsK ctCs 4 w blk 0 d) (hb : blk < w.heap.size) (hs : d.size < 4611686018427387904) :
    Calls Tryz.prog 111 #[.slice (some ⟨blk, 0, none⟩) d.size cap, .func (.func 112) #[] #[]] w fun e w' =>
      e = .returned (.tuple #[]) ∧ ∃ d' n os, PermIn 0 d.size d d' ∧ SortedIn (ltOf cCmp) 0 d.size d' ∧ w' = sortWorldK ctCs 4 w blk 0 n d' os := by
  have eg : ∀ args w, (callFunc 112 args).run Tryz.prog w = .ok (.enter 112 args) w := enters_of Tryz.func112 (by kernel_rfl) rfl
  exact AnyQ.slices_SortFunc Tryz.sortCt 4 Tryz.isAgg69 Tryz.sizeOf69 ctCs (fun _ => rfl) (fun x v hv => by simp [ctCs] at hv; rcases hv with rfl | rfl | rfl | rfl <;> rfl) cCmp swoCt 112 #[] blk 0 cap d w eg (cmpLaysCt blk 0 d.size w) hH hb hs
theorem sort_it (blk cap : Nat) (d : Array ItV) (w : World) (hH : HoldsK itCs 2 w blk 0 d) (hb : blk < w.heap.size) (hs : d.size < 4611686018427387904) :
    Calls Tryz.prog 114 #[.slice (some ⟨blk, 0, none⟩) d.size cap, .func (.func 115) #[] #[]] w fun e w' =>
      e = .returned (.tuple #[]) ∧ ∃ d' n os, PermIn 0 d.size d d' ∧ SortedIn (ltOf fun x y : ItV => Lib.compareBytes x.1 y.1) 0 d.size d' ∧ w' = sortWorldK itCs 2 w blk 0 n d' os := by
  have eg : ∀ args w, (callFunc 115 args).run Tryz.prog w = .ok (.enter 115 args) w := enters_of Tryz.func115 (by kernel_rfl) rfl
  exact AnyQ.slices_SortFunc Tryz.sortIt 2 Tryz.isAgg99 Tryz.sizeOf99 itCs (fun _ => rfl) (fun x v hv => by simp [itCs] at hv; rcases hv with rfl | rfl <;> rfl) (fun x y : ItV => Lib.compareBytes x.1 y.1) swoIt 115 #[] blk 0 cap d w eg (cmpLaysIt blk 0 d.size w) hH hb hs
end Go.Proofs.YtdbnddmncbjobaaGreatDoor

/- A row of the call's own, sorted. -/
namespace Go.Proofs.YtdbnddmncbjobaaGreatDoor
open Go Go.RowKit Go.Sort

section
variable {α : Type} [Inhabited α] {enc : α → List Value} {k : Nat}
theorem flatK_list (hk : ∀ x, (enc x).length = k) (d : List α) : (flatK enc k d.toArray).toList = d.flatMap enc := by
  have hl : (d.flatMap enc).length = d.length * k := gcells_len (cf := enc) hk d
  apply List.ext_getElem?
  intro t
  by_cases ht : t < d.length * k
  · have k0 : 0 < k := by
      rcases Nat.eq_zero_or_pos k with h | h
      · subst h; simp at ht
      · exact h
    have hi : t / k < d.length := Nat.div_lt_of_lt_mul (by rw [Nat.mul_comm]; exact ht)
    have hj : t % k < k := Nat.mod_lt _ k0
    have e : t = t / k * k + t % k := by rw [Nat.mul_comm]; exact (Nat.div_add_mod t k).symm
    have h1 := gcells_at (cf := enc) hk d (t / k) _ (List.getElem?_eq_getElem hi) (t % k) hj
    rw [← e] at h1
    have h2 : (flatK enc k d.toArray).toList[t]? = some ((enc d.toArray[t / k]!)[t % k]!) := by
      have hs : t < (flatK enc k d.toArray).size := by simpa using ht
      rw [Array.getElem?_toList, Array.getElem?_eq_getElem hs]
      have := get_flatK enc k d.toArray t (by simpa using ht)
      rw [getElem!_pos _ t hs] at this
      rw [this]
    rw [h2]
    refine Eq.trans ?_ h1.symm
    have e3 : d.toArray[t / k]! = d[t / k] := by rw [getElem!_pos _ _ (by simpa using hi)]; simp
    rw [e3, List.getElem?_eq_getElem (by rw [hk]; exact hj), getElem!_pos _ _ (by rw [hk]; exact hj)]
  · rw [List.getElem?_eq_none (by simpa using ht), List.getElem?_eq_none (by rw [hl]; omega)]
theorem holdsK_block (hk : ∀ x, (enc x).length = k) {w : World} {g : Nat} {cur : Array Value} {e : TypeId} {xs : List α} (hb : w.heap[g]? = some (.cells cur e (0, 0))) (h4 : cur.toList.take (xs.length * k) = xs.flatMap enc) : HoldsK enc k w g 0 xs.toArray := by
  intro j hj
  have hj' : j < xs.length * k := by simpa using hj
  refine ⟨?_, by simp [World.frozen?, hb]⟩
  have h1 : (cur.toList.take (xs.length * k))[j]? = ((flatK enc k xs.toArray).toList)[j]? := by rw [h4, flatK_list hk]
  rw [List.getElem?_take_of_lt hj'] at h1
  simp only [World.cell?, hb, Nat.zero_add]
  simp only [Option.isSome_none, Bool.false_eq_true, if_false]
  rw [← Array.getElem?_toList, h1, Array.getElem?_toList, Array.getElem?_eq_getElem hj, getElem!_pos _ j hj]
  rfl
theorem heap_sortedK {w : World} {g n : Nat} {os : Array Obj} {cur : Array Value} {e : TypeId} {fr : Nat × Nat} (d : Array α) (hb : w.heap[g]? = some (.cells cur e fr)) :
    (sortWorldK enc k w g 0 n d os).heap[g]? = some (.cells (putCells id 0 (flatK enc k d) cur) e fr) := by
  have hg : g < w.heap.size := (Array.getElem?_eq_some_iff.1 hb).1
  unfold sortWorldK putRowK
  rw [heap_grow_old _ _ (by simpa using hg)]
  simp [putRow, mapBlock, Sort.ahead, Array.getElem?_modify, hb, onCells]
theorem grown_sortedK {w : World} {g n : Nat} {os : Array Obj} (d : Array α) : w.grownBy (sortWorldK enc k w g 0 n d os) (some g) := by
  unfold sortWorldK putRowK
  refine ⟨rfl, rfl, rfl, by simp, fun j hj hne => ?_⟩
  rw [heap_grow_old _ _ (by simpa using hj)]
  have : g ≠ j := fun e => hne (by rw [e])
  simp [putRow, mapBlock, Sort.ahead, Array.getElem?_modify, this]
theorem take_putK (hk : ∀ x, (enc x).length = k) (cur : Array Value) (ts : List α) (h : ts.length * k ≤ cur.size) : (putCells id 0 (flatK enc k ts.toArray) cur).toList.take (ts.length * k) = ts.flatMap enc := by
  rw [← flatK_list hk]
  apply List.ext_getElem?
  intro j
  by_cases hj : j < ts.length * k
  · have hs : j < (flatK enc k ts.toArray).size := by simpa using hj
    rw [List.getElem?_take_of_lt hj, Array.getElem?_toList, Array.getElem?_toList, Array.getElem?_eq_getElem hs]
    unfold putCells
    rw [Array.getElem?_mapIdx, Array.getElem?_eq_getElem (by omega : j < cur.size)]
    simp only [Option.map_some, Nat.zero_le, Nat.zero_add, true_and, Nat.sub_zero, id]
    rw [if_pos hs, getElem!_pos _ j hs]
  · rw [List.getElem?_take_eq_none (by omega), List.getElem?_eq_none (by simpa using hj)]
theorem ownsRow_sortedK (hk : ∀ x, (enc x).length = k) {w : World} {base g cap n : Nat} {e : TypeId} {os : Array Obj} {cur : Array Value} {ts : List α} {m : Nat} (hl : ts.length = m) (hbase : base ≤ g) (hb : w.heap[g]? = some (.cells cur e (0, 0)))
    (h1 : m ≤ cap) (h2 : cap ≤ maxLen) (h3 : cur.size = cap * k) :
    (sortWorldK enc k w g 0 n ts.toArray os).ownsRow base e k (.slice (some ⟨g, 0, none⟩) m cap) m (ts.flatMap enc) := by
  subst hl
  refine ⟨gcells_len (cf := enc) hk ts, .inr ⟨g, cap, _, rfl, hbase, heap_sortedK _ hb, h1, h2, by simp [putCells, h3], ?_⟩⟩
  exact take_putK hk cur ts (by rw [h3]; exact Nat.mul_le_mul_right _ h1)
end
/-- A row of plain cells, both ways. -/
theorem ct_cells {W : World} {B : Nat} {P : Nat → Prop} {v : Value} {xs : List Ct} (h : kCt.own 69 W B P v xs) : W.ownsRow B 69 4 v xs.length (xs.flatMap ctCs) := by
  obtain ⟨ds, h1, h2, h3⟩ := h
  have e : gcells ccf ds = xs.flatMap ctCs := by
    have : ∀ (ds : List (Cs kCt.sz)) (xs : List Ct), ds.length = xs.length → (∀ (i : Nat) (d : Cs kCt.sz) (x : Ct), ds[i]? = some d → xs[i]? = some x → ccf d = ctCs x) → gcells ccf ds = xs.flatMap ctCs := by
      intro ds
      induction ds with
      | nil => intro xs hl _; cases xs with
        | nil => rfl
        | cons x xs => simp at hl
      | cons d ds ih => intro xs hl hh; cases xs with
        | nil => simp at hl
        | cons x xs =>
          have h0 := hh 0 d x rfl rfl
          have h1 := ih xs (by simpa using hl) fun i d x hd hx => hh (i + 1) d x (by simpa using hd) (by simpa using hx)
          unfold gcells at h1 ⊢
          rw [List.flatMap_cons, List.flatMap_cons, h0, h1]
    exact this ds xs h2 fun i d x hd hx => kCt_rep.1 (h3 i d x hd hx)
  unfold OL at h1
  rw [h2, e] at h1
  exact h1
theorem ctCs_one (x : Ct) : ∀ u ∈ ctCs x, u.oneCell' = true := fun u hu => by
  simp only [ctCs, List.mem_cons, List.not_mem_nil, or_false] at hu
  rcases hu with rfl | rfl | rfl | rfl <;> rfl
def ctC (x : Ct) : Cs kCt.sz := ⟨ctCs x, show (ctCs x).length = kCt.sz from rfl, ctCs_one x⟩
theorem gcells_ctC (xs : List Ct) : gcells ccf (xs.map ctC) = xs.flatMap ctCs := by
  induction xs with
  | nil => rfl
  | cons x xs ih => unfold gcells at ih ⊢; rw [List.map_cons, List.flatMap_cons, List.flatMap_cons, ih]; rfl
theorem cells_ct {W : World} {B : Nat} {P : Nat → Prop} {v : Value} {xs : List Ct} (h : W.ownsRow B 69 4 v xs.length (xs.flatMap ctCs)) : kCt.own 69 W B P v xs := by
  refine ⟨xs.map ctC, ?_, List.length_map _, fun i d x hd hx => ?_⟩
  · unfold OL
    rw [gcells_ctC, List.length_map]
    exact h
  · rw [List.getElem?_map, hx] at hd
    simp only [Option.map_some, Option.some.injEq] at hd
    subst hd
    exact kCt_rep.2 rfl
end Go.Proofs.YtdbnddmncbjobaaGreatDoor

/- Places sorted in their own row. -/
namespace Go.Proofs.YtdbnddmncbjobaaGreatDoor
open Go Go.RowKit Go.Sort

section
variable {α : Type} [Inhabited α] {lt : α → α → Bool}
theorem perm_all {d d' : Array α} (h : PermIn 0 d.size d d') : d'.toList.Perm d.toList := by
  obtain ⟨h1, _, h3⟩ := h
  have e1 : d'.extract 0 d.size = d' := by rw [← h1]; exact Array.extract_size
  have e2 : d.extract 0 d.size = d := Array.extract_size
  rwa [e1, e2] at h3
theorem sorted_all {d : Array α} {n : Nat} (hn : n = d.size) (h : SortedIn lt 0 n d) : d.toList.Pairwise fun a b => lt b a = false := by
  subst hn
  rw [List.pairwise_iff_getElem]
  intro i j hi hj hij
  have := h i j (Nat.zero_le _) hij (by simpa using hj)
  rw [getElem!_pos d i (by simpa using hi), getElem!_pos d j (by simpa using hj)] at this
  simpa using this
end
theorem sort_own (w : World) (B : Nat) (v : Value) (xs : List Ct) (h : kCt.own 69 w B (fun _ => False) v xs) (hne : xs ≠ []) (hl : xs.length ≤ 100000000) :
    Calls Tryz.prog 111 #[v, .func (.func 112) #[] #[]] w fun e w' => e = .returned (.tuple #[]) ∧ ∃ ys, ys.Perm xs ∧ (ys.Pairwise fun a b => ¬ CLt b a) ∧ kCt.own 69 w' B (fun _ => False) v ys ∧ w.grownBy w' v.ownBlock := by
  have hc := ct_cells h
  rcases hc.2 with ⟨_, h0⟩ | ⟨g, cap, cur, rfl, hbase, hb, h1, h2, h3, h4⟩
  · exact absurd (List.length_eq_zero_iff.1 h0) hne
  have hk : ∀ x, (ctCs x).length = 4 := fun _ => rfl
  have hg : g < w.heap.size := (Array.getElem?_eq_some_iff.1 hb).1
  have hs := sort_ct g cap xs.toArray w (holdsK_block hk hb h4) hg (by simp; omega)
  rw [List.size_toArray] at hs
  refine hs.mono ?_
  rintro e w' ⟨he, d', n, os, hp, hsr, rfl⟩
  have hsz : d'.size = xs.length := by have := hp.1; simpa using this
  have hp' : d'.toList.Perm xs := by
    have := perm_all (d := xs.toArray) (d' := d') (by simpa using hp)
    simpa using this
  refine ⟨he, d'.toList, hp', ?_, ?_, ?_⟩
  · refine (sorted_all (by rw [hsz]) hsr).imp fun {a b} hab => ?_
    simp only [ltOf, decide_eq_false_iff_not, cCmp_lt] at hab
    exact hab
  · have h9 := ownsRow_sortedK (enc := ctCs) hk (w := w) (base := B) (g := g) (cap := cap) (n := n) (os := os) (ts := d'.toList) (m := xs.length) (by simpa using hsz) hbase hb h1 h2 h3
    have e2 : d'.toList.length = xs.length := by simpa using hsz
    rw [← e2] at h9 ⊢
    exact cells_ct (by simpa using h9)
  · exact grown_sortedK d'
end Go.Proofs.YtdbnddmncbjobaaGreatDoor

/- slices.Compact of places, plain. -/
namespace Go.Proofs.YtdbnddmncbjobaaGreatDoor

theorem ded_snoc : ∀ (l : List Ct) (a b : Ct), dedP (l ++ [a, b]) = if a = b then dedP (l ++ [a]) else dedP (l ++ [a]) ++ [b]
  | [], a, b => by
    by_cases h : a = b
    · simp [dedP, h]
    · simp [dedP, h]
  | x :: l, a, b => by
    have ih := ded_snoc l a b
    have hne : dedP (l ++ [a]) ≠ [] := ded_ne (by simp)
    obtain ⟨y, s, hy⟩ := List.exists_cons_of_ne_nil hne
    by_cases h : a = b
    · rw [if_pos h] at ih ⊢
      rw [List.cons_append, List.cons_append]
      unfold dedP
      rw [ih]
    · rw [if_neg h] at ih ⊢
      rw [List.cons_append, List.cons_append]
      unfold dedP
      rw [ih, hy]
      simp only [List.cons_append]
      split <;> rfl
theorem take_two {xs : List Ct} {i : Nat} {a b : Ct} (ha : xs[i]? = some a) (hb : xs[i + 1]? = some b) : xs.take (i + 2) = xs.take i ++ [a, b] ∧ xs.take (i + 1) = xs.take i ++ [a] := by
  have e1 : xs.take (i + 1) = xs.take i ++ [a] := by rw [List.take_add_one, ha]; rfl
  refine ⟨?_, e1⟩
  rw [show i + 2 = (i + 1) + 1 from rfl, List.take_add_one, hb, e1]
  simp
theorem ded_step_same {xs : List Ct} {i : Nat} {a : Ct} (ha : xs[i]? = some a) (hb : xs[i + 1]? = some a) : dedP (xs.take (i + 2)) = dedP (xs.take (i + 1)) := by
  obtain ⟨e2, e1⟩ := take_two ha hb
  rw [e2, e1, ded_snoc, if_pos rfl]
theorem ded_step_new {xs : List Ct} {i : Nat} {a b : Ct} (ha : xs[i]? = some a) (hb : xs[i + 1]? = some b) (h : a ≠ b) : dedP (xs.take (i + 2)) = dedP (xs.take (i + 1)) ++ [b] := by
  obtain ⟨e2, e1⟩ := take_two ha hb
  rw [e2, e1, ded_snoc, if_neg h]
/-- So far the places before k are different from their neighbours. -/
def Pfx (xs : List Ct) (k : Nat) : Prop := dedP (xs.take k) = xs.take k
theorem Pfx.one (xs : List Ct) : Pfx xs 1 := by
  unfold Pfx
  cases xs with
  | nil => rfl
  | cons x xs => simp [dedP]
theorem Pfx.next {xs : List Ct} {k : Nat} {a b : Ct} (h : Pfx xs (k + 1)) (ha : xs[k]? = some a) (hb : xs[k + 1]? = some b) (hne : a ≠ b) : Pfx xs (k + 2) := by
  unfold Pfx at *
  rw [ded_step_new ha hb hne, h]
  obtain ⟨e2, e1⟩ := take_two ha hb
  rw [e2, e1]
  simp
/-- A place has come twice: i of the places are done, k of them stand in the row R. -/
structure CmI (xs : List Ct) (i k : Nat) (R : List Ct) : Prop where
  len : R.length = xs.length
  lt : k + 1 ≤ i
  out : R.take k = dedP (xs.take i)
  rest : ∀ j, i ≤ j + 1 → R[j]? = xs[j]?
theorem CmI.start {xs : List Ct} {k : Nat} {a : Ct} (h : Pfx xs (k + 1)) (ha : xs[k]? = some a) (hb : xs[k + 1]? = some a) : CmI xs (k + 2) (k + 1) xs :=
  ⟨rfl, Nat.le_refl _, by rw [ded_step_same ha hb]; exact h.symm, fun _ _ => rfl⟩
theorem CmI.same {xs R : List Ct} {i k : Nat} {a : Ct} (h : CmI xs (i + 1) k R) (ha : xs[i]? = some a) (hb : xs[i + 1]? = some a) : CmI xs (i + 2) k R :=
  ⟨h.len, Nat.le_succ_of_le h.lt, by rw [ded_step_same ha hb]; exact h.out, fun j hj => h.rest j (by omega)⟩
theorem CmI.new {xs R : List Ct} {i k : Nat} {a b : Ct} (h : CmI xs (i + 1) k R) (ha : xs[i]? = some a) (hb : xs[i + 1]? = some b) (hne : a ≠ b) : CmI xs (i + 2) (k + 1) (R.set k b) := by
  have hi := (List.getElem?_eq_some_iff.1 hb).1
  have hk := h.lt
  have hl := h.len
  refine ⟨by rw [List.length_set]; exact h.len, by omega, ?_, fun j hj => ?_⟩
  · rw [ded_step_new ha hb hne, ← h.out, List.take_add_one, List.take_set_of_le (Nat.le_refl k), List.getElem?_set_self (by omega)]
    rfl
  · rw [List.getElem?_set_ne (by omega)]
    exact h.rest j (by omega)
theorem CmI.fin {xs R : List Ct} {i k : Nat} (h : CmI xs i k R) (hi : xs.length ≤ i) : R.take k = dedP xs := by rw [h.out, List.take_of_length_le hi]
end Go.Proofs.YtdbnddmncbjobaaGreatDoor

/- slices.Compact of places: what lies in the row; builtin clear at places. -/
namespace Go.Proofs.YtdbnddmncbjobaaGreatDoor
open Go Go.RowKit

theorem setCells_block (g : Nat) : ∀ (vs : List Value) (o : Nat) (W : World) (cur : Array Value) (e : TypeId), W.heap[g]? = some (.cells cur e (0, 0)) →
    ∃ cur', (W.setCells g o vs).heap[g]? = some (.cells cur' e (0, 0)) ∧ cur'.size = cur.size ∧ (∀ j, j < o → cur'[j]? = cur[j]?) ∧ W.grownBy (W.setCells g o vs) (some g)
  | [], o, W, cur, e, h => ⟨cur, h, rfl, fun _ _ => rfl, ⟨rfl, rfl, rfl, Nat.le_refl _, fun _ _ _ => rfl⟩⟩
  | v :: vs, o, W, cur, e, h => by
    have h1 := heap_setCell_same W g o cur e v h
    obtain ⟨cur', k1, k2, k3, k4⟩ := setCells_block g vs (o + 1) (W.setCell ⟨g, o, none⟩ v) _ e h1
    refine ⟨cur', k1, by rw [k2]; simp, fun j hj => ?_, ⟨k4.os, k4.tape, k4.output, by have := k4.size; rwa [World.size_setCell] at this, fun j hj hne => ?_⟩⟩
    · rw [k3 j (by omega)]
      simp [show o ≠ j by omega]
    · have hjg : j ≠ g := fun e9 => hne (by rw [e9])
      exact (k4.block j (by rw [World.size_setCell]; exact hj) hne).trans (heap_setCell_other W ⟨g, o, none⟩ j v hjg)
/-- 'clear(s)' at elements of several cells. -/
theorem run_clear_many {P : Program} (w : World) (t e ty : TypeId) (z : Value) (ht : P.underlying t = some (.slice e)) (hv : ∀ w, (zeroValue e).run P w = .ok z w) (h1 : ∀ u ∈ z.cells.toList, u.oneCell' = true) (b o n c : Nat) (hn : 0 < n)
    (hc : ∀ j, j < n * z.cells.size → (w.cell? ⟨b, o + j, none⟩).isSome = true) (hf : ∀ j, w.frozen? ⟨b, j, none⟩ = false) :
    (Builtin.clear_ #[t] ty #[.slice (some ⟨b, o, none⟩) n c]).run P w = .ok (.tuple #[]) (w.setCells b o (Builtin.zeroCells z.cells n).toList) := by
  have hl : (Builtin.zeroCells z.cells n).toList.length = n * z.cells.size := by simp [Builtin.zeroCells]
  have hst := run_storeCells_cells (P := P) b o (Builtin.zeroCells z.cells n).toList 0 w (by rw [hl]; simpa using hc) (fun j _ => by simpa using hf (o + j)) (by
    intro v hv'
    simp only [Builtin.zeroCells, Array.toList_map, List.mem_map] at hv'
    obtain ⟨i, hi, rfl⟩ := hv'
    have hi' : i < n * z.cells.size := by simpa using hi
    have h0 : 0 < z.cells.size := by
      rcases Nat.eq_zero_or_pos z.cells.size with h | h
      · rw [h] at hi'; simp at hi'
      · exact h
    have hm := Nat.mod_lt i h0
    rw [getElem!_pos z.cells _ hm]
    exact h1 _ (by simp))
  simp only [Nat.add_zero] at hst
  obtain ⟨m, rfl⟩ : ∃ m, n = m + 1 := ⟨n - 1, by omega⟩
  simp [Builtin.clear_, run_underlying ht, hv, hst]
/-- Block g begins with the places R. -/
def CRow (W : World) (g N : Nat) (R : List Ct) : Prop := ∃ cur, W.heap[g]? = some (.cells cur 69 (0, 0)) ∧ cur.toList.take (R.length * 4) = R.flatMap ctCs ∧ R.length * 4 ≤ cur.size ∧ cur.size = N
theorem CRow.at {W : World} {g N : Nat} {R : List Ct} (h : CRow W g N R) {i : Nat} {x : Ct} (hi : R[i]? = some x) :
    W.cell? ⟨g, i * 4, none⟩ = some (.int .i64 x.br) ∧ W.cell? ⟨g, i * 4 + 1, none⟩ = some (.int .i64 x.nu) ∧ W.cell? ⟨g, i * 4 + 2, none⟩ = some (.int .i64 x.su) ∧ W.cell? ⟨g, i * 4 + 3, none⟩ = some (.int .i64 x.li) := by
  obtain ⟨cur, hb, ht, hs, hN⟩ := h
  have hl := (List.getElem?_eq_some_iff.1 hi).1
  have key : ∀ j u, j < 4 → (ctCs x)[j]? = some u → W.cell? ⟨g, i * 4 + j, none⟩ = some u := fun j u hj hu => by
    have h1 := gcells_at (cf := ctCs) (sz := 4) (fun _ => rfl) R i x hi j hj
    have h2 : (cur.toList.take (R.length * 4))[i * 4 + j]? = (R.flatMap ctCs)[i * 4 + j]? := by rw [ht]
    rw [List.getElem?_take_of_lt (by omega), Array.getElem?_toList] at h2
    exact cell_of hb (h2.trans (h1.trans hu))
  exact ⟨key 0 _ (by omega) rfl, key 1 _ (by omega) rfl, key 2 _ (by omega) rfl, key 3 _ (by omega) rfl⟩
theorem CRow.frozen {W : World} {g N : Nat} {R : List Ct} (h : CRow W g N R) (i : Nat) : W.frozen? ⟨g, i, none⟩ = false := by
  obtain ⟨cur, hb, _⟩ := h
  exact frozen_of hb i
theorem CRow.drew {W : World} {g N n : Nat} {R : List Ct} (h : CRow W g N R) : CRow (W.drewN n) g N R := h
/-- A place is stored. -/
def cSt4 (W : World) (g k : Nat) (x : Ct) : World := (((W.setCell ⟨g, k * 4, none⟩ (.int .i64 x.br)).setCell ⟨g, k * 4 + 1, none⟩ (.int .i64 x.nu)).setCell ⟨g, k * 4 + 2, none⟩ (.int .i64 x.su)).setCell ⟨g, k * 4 + 3, none⟩ (.int .i64 x.li)
theorem CRow.set {W : World} {g k N : Nat} {R : List Ct} (h : CRow W g N R) (x : Ct) (hk : k < R.length) : CRow (cSt4 W g k x) g N (R.set k x) ∧ W.grownBy (cSt4 W g k x) (some g) := by
  obtain ⟨cur, hb, ht, hs, hN⟩ := h
  refine ⟨⟨_, heap_setCell_same _ g _ _ 69 _ (heap_setCell_same _ g _ _ 69 _ (heap_setCell_same _ g _ _ 69 _ (heap_setCell_same _ g _ _ 69 _ hb))), ?_, by simpa using hs, by simpa using hN⟩, ⟨rfl, rfl, rfl, by simp [cSt4], fun j _ hne => ?_⟩⟩
  · rw [List.length_set]
    apply List.ext_getElem?
    intro t
    have hL : ((R.set k x).flatMap ctCs).length = R.length * 4 := by have := gcells_len (cf := ctCs) (sz := 4) (fun _ => rfl) (R.set k x); rw [List.length_set] at this; exact this
    by_cases hT : t < R.length * 4
    · rw [List.getElem?_take_of_lt hT, Array.getElem?_toList]
      have hi : t / 4 < R.length := Nat.div_lt_of_lt_mul (by rw [Nat.mul_comm]; exact hT)
      have e : t = t / 4 * 4 + t % 4 := by omega
      have hold : cur[t]? = (R.flatMap ctCs)[t]? := by
        rw [← ht, List.getElem?_take_of_lt hT, Array.getElem?_toList]
      have h1 := gcells_at (cf := ctCs) (sz := 4) (fun _ => rfl) (R.set k x) (t / 4) _ (List.getElem?_eq_getElem (by rw [List.length_set]; exact hi)) (t % 4) (by omega)
      have h2 := gcells_at (cf := ctCs) (sz := 4) (fun _ => rfl) R (t / 4) _ (List.getElem?_eq_getElem hi) (t % 4) (by omega)
      rw [← e] at h1 h2
      refine Eq.trans ?_ h1.symm
      by_cases hkt : k = t / 4
      · have hx : (R.set k x)[t / 4]'(by rw [List.length_set]; exact hi) = x := by subst hkt; simp
        rw [hx]
        have hm : t % 4 = 0 ∨ t % 4 = 1 ∨ t % 4 = 2 ∨ t % 4 = 3 := by omega
        have hcs : t < cur.size := by omega
        rcases hm with hm | hm | hm | hm
        · have et : t = k * 4 := by omega
          rw [hm, et]
          rw [et] at hcs
          simp [ctCs, hcs]
        · have et : t = k * 4 + 1 := by omega
          rw [hm, et]
          rw [et] at hcs
          simp [ctCs, hcs]
        · have et : t = k * 4 + 2 := by omega
          rw [hm, et]
          rw [et] at hcs
          simp [ctCs, hcs]
        · have et : t = k * 4 + 3 := by omega
          rw [hm, et]
          rw [et] at hcs
          simp [ctCs, hcs]
      · have hx : (R.set k x)[t / 4]'(by rw [List.length_set]; exact hi) = R[t / 4] := by rw [List.getElem_set_ne hkt]
        rw [hx, ← h2]
        rw [Array.getElem?_setIfInBounds_ne (by omega), Array.getElem?_setIfInBounds_ne (by omega), Array.getElem?_setIfInBounds_ne (by omega), Array.getElem?_setIfInBounds_ne (by omega)]
        exact hold
    · rw [List.getElem?_take_eq_none (by omega), List.getElem?_eq_none (by rw [hL]; omega)]
  · have hjg : j ≠ g := fun e9 => hne (by rw [e9])
    unfold cSt4
    rw [heap_setCell_other _ ⟨g, k * 4 + 3, none⟩ j _ hjg, heap_setCell_other _ ⟨g, k * 4 + 2, none⟩ j _ hjg, heap_setCell_other _ ⟨g, k * 4 + 1, none⟩ j _ hjg, heap_setCell_other _ ⟨g, k * 4, none⟩ j _ hjg]
/-- The row is cut at k, and what lies behind is written. -/
theorem CRow.cut {W : World} {g k N : Nat} {R : List Ct} (h : CRow W g N R) (hk : k ≤ R.length) (vs : List Value) : CRow (W.setCells g (k * 4) vs) g N (R.take k) ∧ W.grownBy (W.setCells g (k * 4) vs) (some g) := by
  obtain ⟨cur, hb, ht, hs, hN⟩ := h
  obtain ⟨cur', k1, k2, k3, k4⟩ := setCells_block g vs (k * 4) W cur 69 hb
  have hl : (R.take k).length = k := by rw [List.length_take]; omega
  refine ⟨⟨cur', k1, ?_, by rw [hl, k2]; omega, by rw [k2]; exact hN⟩, k4⟩
  rw [hl]
  have e1 : cur'.toList.take (k * 4) = cur.toList.take (k * 4) := by
    apply List.ext_getElem?
    intro j
    by_cases hj : j < k * 4
    · rw [List.getElem?_take_of_lt hj, List.getElem?_take_of_lt hj, Array.getElem?_toList, Array.getElem?_toList, k3 j hj]
    · rw [List.getElem?_take_eq_none (by omega), List.getElem?_take_eq_none (by omega)]
  have e2 : cur.toList.take (k * 4) = (cur.toList.take (R.length * 4)).take (k * 4) := by rw [List.take_take, Nat.min_eq_left (by omega)]
  have e3 : R.flatMap ctCs = (R.take k).flatMap ctCs ++ (R.drop k).flatMap ctCs := by rw [← List.flatMap_append, List.take_append_drop]
  have e4 : ((R.take k).flatMap ctCs).length = k * 4 := by have := gcells_len (cf := ctCs) (sz := 4) (fun _ => rfl) (R.take k); rw [hl] at this; exact this
  rw [e1, e2, ht, e3, ← e4, List.take_left]
end Go.Proofs.YtdbnddmncbjobaaGreatDoor
