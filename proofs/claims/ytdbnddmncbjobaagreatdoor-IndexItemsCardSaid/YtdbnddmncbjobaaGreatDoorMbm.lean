/- The reference's Set: a page under way. -/
import Derived.Test.YtdbnddmncbjobaaGreatDoorMbl
namespace Go.Proofs.YtdbnddmncbjobaaGreatDoor
section
open Go Go.RowKit
theorem own_move {β : Type} {k : Lay β} {e : TypeId} {W W' : World} {b : Nat} {P P' : Nat → Prop} {v : Value} {xs : List β} (h : k.own e W b P v xs) (hs : W.heap.size ≤ W'.heap.size) (hk : ∀ j, (P j ∨ v.ownBlock = some j) → j < W.heap.size → W'.heap[j]? = W.heap[j]?) (hp : ∀ j, P j → j < W.heap.size → P' j) : k.own e W' b P' v xs :=
 Lay.own_mono (Lay.own_keep (Lay.own_mono (P' := fun j => P j ∧ j < W.heap.size) h fun _ hj hl => ⟨hj, hl⟩) hs fun j hj hl => hk j (hj.imp (·.1) id) hl) fun j hj _ => hp j hj.1 hj.2
structure PgW (w W0 : World) (z : Nat) (qv0 : Value) (B N Q : List Ln) (qv Bv Nv : Value) (W : World) : Prop where
 box : W.heap[z]? = some (.cells #[.int .i64 0, .int .i64 0, .int .i64 0, .int .i64 0, Bv, Nv] 84 (0, 0))
 bo : kLn.own 86 W (z + 1) (fun j => z < j ∧ Nv.ownBlock ≠ some j ∧ qv.ownBlock ≠ some j) Bv B
 no : kLn.own 86 W (z + 1) (fun j => z < j ∧ Bv.ownBlock ≠ some j ∧ qv.ownBlock ≠ some j) Nv N
 qo : kLn.que 86 W w.heap.size (fun j => j < w.heap.size) qv Q
 dbn : ∀ j, Bv.ownBlock = some j → Nv.ownBlock ≠ some j
 dbq : ∀ j, Bv.ownBlock = some j → qv.ownBlock ≠ some j
 dnq : ∀ j, Nv.ownBlock = some j → qv.ownBlock ≠ some j
 ow : ∀ j, qv.ownBlock = some j → qv0.ownBlock = some j ∨ z < j
 q0 : ∀ j, qv0.ownBlock = some j → j < z
 keep : ∀ j, j < z → qv0.ownBlock ≠ some j → W.heap[j]? = W0.heap[j]?
 wz : w.heap.size ≤ z
 ext : Ext w W
variable {w W0 : World} {z : Nat} {qv0 : Value} {B N Q : List Ln} {qv Bv Nv : Value} {W : World}
theorem PgW.mv (h : PgW w W0 z qv0 B N Q qv Bv Nv W) {W' : World} (hx : Ext W W') : PgW w W0 z qv0 B N Q qv Bv Nv W' := by
 have hz := lt_of_block h.box
 exact ⟨(hx.block _ hz).trans h.box, Lay.own_ext h.bo hx, Lay.own_ext h.no hx, Lay.que_ext h.qo hx, h.dbn, h.dbq, h.dnq, h.ow, h.q0, fun j hj hq => (hx.block j (by omega)).trans (h.keep j hj hq), h.wz, h.ext.trans hx⟩
theorem PgW.qz (h : PgW w W0 z qv0 B N Q qv Bv Nv W) : ∀ j, qv.ownBlock = some j → j ≠ z := fun j hj => by
 rcases h.ow j hj with h1 | h1
 ·have := h.q0 j h1; omega
 ·omega
theorem PgW.noteV (h : PgW w W0 z qv0 B N Q qv Bv Nv W) {n : Nat} (hn : N.length = n) : ∃ A c, Nv = .slice A n c ∧ n ≤ c := by
 obtain ⟨A, c, e, hc, _⟩ := Lay.own_row h.no
 rw [hn] at e hc
 exact ⟨A, c, e, hc⟩
theorem PgW.bodyV (h : PgW w W0 z qv0 B N Q qv Bv Nv W) {n : Nat} (hn : B.length = n) : ∃ A c, Bv = .slice A n c ∧ n ≤ c := by
 obtain ⟨A, c, e, hc, _⟩ := Lay.own_row h.bo
 rw [hn] at e hc
 exact ⟨A, c, e, hc⟩
theorem PgW.queV (h : PgW w W0 z qv0 B N Q qv Bv Nv W) {n : Nat} (hn : Q.length = n) : ∃ A c, qv = .slice A n c ∧ n ≤ c := by
 obtain ⟨A, c, e, hc, _⟩ := Lay.que_len h.qo
 rw [hn] at e hc
 exact ⟨A, c, e, hc⟩
theorem PgW.start {w W0 : World} {Q : List Ln} {qv : Value} (hx : Ext w W0) (hq : kLn.que 86 W0 w.heap.size (fun j => j < w.heap.size) qv Q) : PgW w W0 W0.heap.size qv [] [] Q qv (.slice none 0 0) (.slice none 0 0) (W0.alloc (.cells #[.int .i64 0, .int .i64 0, .int .i64 0, .int .i64 0, .slice none 0 0, .slice none 0 0] 84)) :=
 have h1 : Ext W0 (W0.alloc (.cells #[.int .i64 0, .int .i64 0, .int .i64 0, .int .i64 0, .slice none 0 0, .slice none 0 0] 84)) := (Ext.refl _).alloc _
 ⟨haA _ _ _ _ rfl, Lay.own_nil _ _ _ _ _, Lay.own_nil _ _ _ _ _, Lay.que_ext hq h1, (fun _ h => nomatch h), (fun _ h => nomatch h), (fun _ h => nomatch h), fun _ hj => .inl hj, fun j hj => (Lay.que_lt hq j hj).2, fun j hj _ => h1.block j hj, hx.lt, hx.trans h1⟩
theorem PgW.note (h : PgW w W0 z qv0 B N Q qv Bv Nv W) {X : World} (hx : Ext W X) {x : Ln} {cs : Array Value} (hr : kLn.rep X (fun j => W.heap.size ≤ j) x cs.toList) (hl : N.length < 1000000) {qv' : Value} {Q' : List Ln}
  (hq' : ∀ Y, kLn.que 86 Y w.heap.size (fun j => j < w.heap.size) qv Q → kLn.que 86 Y w.heap.size (fun j => j < w.heap.size) qv' Q') (ho' : ∀ j, qv'.ownBlock = some j → qv.ownBlock = some j) :
  ∃ A' c' w', (Builtin.append_ #[82, 82] 82 #[Nv, .slice (some ⟨X.heap.size, 0, none⟩) 1 1]).run Tryz.prog (X.alloc (.cells cs 86)) = .ok (.slice A' (N.length + 1) c') w' ∧
   w'.heap[z]? = some (.cells #[.int .i64 0, .int .i64 0, .int .i64 0, .int .i64 0, Bv, Nv] 84 (0, 0)) ∧ Ext w w' ∧ (∀ j, j < X.heap.size → Nv.ownBlock ≠ some j → w'.heap[j]? = X.heap[j]?) ∧
   PgW w W0 z qv0 B (N ++ [x]) Q' qv' Bv (.slice A' (N.length + 1) c') (w'.setCell ⟨z, 5, none⟩ (.slice A' (N.length + 1) c')) := by
 have hX := h.mv hx
 have hzX := lt_of_block hX.box
 have hzW := lt_of_block h.box
 have hN := Lay.own_lt hX.no
 have hNW := Lay.own_lt h.no
 have hB := Lay.own_lt hX.bo
 have hBW := Lay.own_lt h.bo
 have hQW := Lay.que_lt h.qo
 obtain ⟨A', c', w', r1, r2, r3, r4, r5, r6⟩ := own_app1 (k := kLn) (Pr := Tryz.prog) (t := 82) Tryz.underlying82 info86 rfl (by decide) (by omega) hX.no (by omega) (cs := cs) (T := 86) (x := x) (kLn.mono hr fun j hj hl => ⟨⟨by omega, fun e => by have := hBW j e; omega, fun e => by have := hQW j e; omega⟩, fun e => by have := hNW j e; omega⟩) 1 (by omega)
 have hne : ∀ j, j < X.heap.size → Nv.ownBlock ≠ some j → j ≠ z → (w'.setCell ⟨z, 5, none⟩ (.slice A' (N.length + 1) c')).heap[j]? = X.heap[j]? := fun j hj hn hz => (heap_setCell_other _ ⟨z, 5, none⟩ j _ hz).trans (r4 j hj hn)
 have hbx : w'.heap[z]? = some (.cells #[.int .i64 0, .int .i64 0, .int .i64 0, .int .i64 0, Bv, Nv] 84 (0, 0)) := (r4 z hzX fun e => by have := hN z e; omega).trans hX.box
 have hxw : Ext w w' := Below.trans hX.ext (r3 _ (by have := h.wz; omega))
 have hs5 : ∀ u : Value, (w'.setCell ⟨z, 5, none⟩ u).heap.size = w'.heap.size := fun u => by simp
 have hnn : ∀ j, (Value.slice A' (N.length + 1) c').ownBlock = some j → z < j ∧ (Nv.ownBlock = some j ∨ X.heap.size ≤ j) := fun j hj => by
  rcases r6 j hj with h1 | h1
  ·exact ⟨by have := hN j h1; omega, .inl h1⟩
  ·exact ⟨by omega, .inr h1⟩
 refine ⟨A', c', w', r1, hbx, hxw, r4, ?_⟩
 refine ⟨?_, own_move hX.bo (by rw [hs5]; exact r5) (fun j hj hl => hne j hl ?_ ?_) (fun j hj hl => ⟨hj.1, fun e => ?_, fun e => hj.2.2 (ho' j e)⟩), ?_, ?_, fun j hj e => ?_, fun j hj e => h.dbq j hj (ho' j e), fun j hj e => ?_, fun j hj => h.ow j (ho' j hj), h.q0, fun j hj hq => ?_, h.wz, hxw.setCell (p := ⟨z, 5, none⟩) h.wz _⟩
 ·rw [heap_setCell_same _ z 5 _ 84 _ hbx]; rfl
 ·rcases hj with hj | hj
  ·exact hj.2.1
  ·exact h.dbn j hj
 ·rcases hj with hj | hj
  ·omega
  ·have := hB j hj; omega
 ·rcases (hnn j e).2 with h1 | h1
  ·exact hj.2.1 h1
  ·omega
 ·refine own_move r2 (by rw [hs5]; exact Nat.le_refl _) (fun j hj hl => heap_setCell_other _ ⟨z, 5, none⟩ j _ ?_) (fun j hj hl => ⟨hj.1, hj.2.1, fun e => hj.2.2 (ho' j e)⟩)
  rcases hj with hj | hj
  ·show j ≠ z; omega
  ·have := (hnn j hj).1; show j ≠ z; omega
 ·refine Lay.que_keep (hq' X hX.qo) (by rw [hs5]; exact r5) fun j hj hl => hne j hl ?_ ?_
  ·intro e
   rcases hj with hj | hj
   ·have := hN j e; have := h.wz; omega
   ·exact h.dnq j e (ho' j hj)
  ·rcases hj with hj | hj
   ·have := h.wz; omega
   ·exact h.qz j (ho' j hj)
 ·rcases (hnn j e).2 with h1 | h1
  ·exact h.dbn j hj h1
  ·have := hB j hj; omega
 ·have e' := ho' j e
  rcases (hnn j hj).2 with h1 | h1
  ·exact h.dnq j h1 e'
  ·have := hQW j e'; have := hx.lt; omega
 ·have hj2 : Nv.ownBlock ≠ some j := fun e => by have := hN j e; omega
  exact (hne j (by omega) hj2 (by omega)).trans (hX.keep j hj hq)
theorem PgW.line (h : PgW w W0 z qv0 B N Q qv Bv Nv W) {X : World} (hx : Ext W X) {x : Ln} {cs : Array Value} (hr : kLn.rep X (fun j => W.heap.size ≤ j) x cs.toList) (hl : B.length < 1000000) :
  ∃ A' c' w', (Builtin.append_ #[82, 82] 82 #[Bv, .slice (some ⟨X.heap.size, 0, none⟩) 1 1]).run Tryz.prog (X.alloc (.cells cs 86)) = .ok (.slice A' (B.length + 1) c') w' ∧
   w'.heap[z]? = some (.cells #[.int .i64 0, .int .i64 0, .int .i64 0, .int .i64 0, Bv, Nv] 84 (0, 0)) ∧ Ext w w' ∧
   PgW w W0 z qv0 (B ++ [x]) N Q qv (.slice A' (B.length + 1) c') Nv (w'.setCell ⟨z, 4, none⟩ (.slice A' (B.length + 1) c')) := by
 have hX := h.mv hx
 have hzX := lt_of_block hX.box
 have hzW := lt_of_block h.box
 have hN := Lay.own_lt hX.no
 have hNW := Lay.own_lt h.no
 have hB := Lay.own_lt hX.bo
 have hBW := Lay.own_lt h.bo
 have hQW := Lay.que_lt h.qo
 obtain ⟨A', c', w', r1, r2, r3, r4, r5, r6⟩ := own_app1 (k := kLn) (Pr := Tryz.prog) (t := 82) Tryz.underlying82 info86 rfl (by decide) (by omega) hX.bo (by omega) (cs := cs) (T := 86) (x := x) (kLn.mono hr fun j hj hl => ⟨⟨by omega, fun e => by have := hNW j e; omega, fun e => by have := hQW j e; omega⟩, fun e => by have := hBW j e; omega⟩) 1 (by omega)
 have hne : ∀ j, j < X.heap.size → Bv.ownBlock ≠ some j → j ≠ z → (w'.setCell ⟨z, 4, none⟩ (.slice A' (B.length + 1) c')).heap[j]? = X.heap[j]? := fun j hj hn hz => (heap_setCell_other _ ⟨z, 4, none⟩ j _ hz).trans (r4 j hj hn)
 have hbx : w'.heap[z]? = some (.cells #[.int .i64 0, .int .i64 0, .int .i64 0, .int .i64 0, Bv, Nv] 84 (0, 0)) := (r4 z hzX fun e => by have := hB z e; omega).trans hX.box
 have hxw : Ext w w' := Below.trans hX.ext (r3 _ (by have := h.wz; omega))
 have hs5 : ∀ u : Value, (w'.setCell ⟨z, 4, none⟩ u).heap.size = w'.heap.size := fun u => by simp
 have hnn : ∀ j, (Value.slice A' (B.length + 1) c').ownBlock = some j → z < j ∧ (Bv.ownBlock = some j ∨ X.heap.size ≤ j) := fun j hj => by
  rcases r6 j hj with h1 | h1
  ·exact ⟨by have := hB j h1; omega, .inl h1⟩
  ·exact ⟨by omega, .inr h1⟩
 refine ⟨A', c', w', r1, hbx, hxw, ?_⟩
 refine ⟨?_, ?_, own_move hX.no (by rw [hs5]; exact r5) (fun j hj hl => hne j hl ?_ ?_) (fun j hj hl => ⟨hj.1, fun e => ?_, hj.2.2⟩), ?_, fun j hj e => ?_, fun j hj e => ?_, h.dnq, h.ow, h.q0, fun j hj hq => ?_, h.wz, hxw.setCell (p := ⟨z, 4, none⟩) h.wz _⟩
 ·rw [heap_setCell_same _ z 4 _ 84 _ hbx]; rfl
 ·refine own_move r2 (by rw [hs5]; exact Nat.le_refl _) (fun j hj hl => heap_setCell_other _ ⟨z, 4, none⟩ j _ ?_) (fun j hj hl => hj)
  rcases hj with hj | hj
  ·show j ≠ z; omega
  ·have := (hnn j hj).1; show j ≠ z; omega
 ·rcases hj with hj | hj
  ·exact hj.2.1
  ·exact fun e => h.dbn j e hj
 ·rcases hj with hj | hj
  ·omega
  ·have := hN j hj; omega
 ·rcases (hnn j e).2 with h1 | h1
  ·exact hj.2.1 h1
  ·omega
 ·refine Lay.que_keep hX.qo (by rw [hs5]; exact r5) fun j hj hl => hne j hl ?_ ?_
  ·intro e
   rcases hj with hj | hj
   ·have := hB j e; have := h.wz; omega
   ·exact h.dbq j e hj
  ·rcases hj with hj | hj
   ·have := h.wz; omega
   ·exact h.qz j hj
 ·rcases (hnn j hj).2 with h1 | h1
  ·exact h.dbn j h1 e
  ·have := hN j e; omega
 ·rcases (hnn j hj).2 with h1 | h1
  ·exact h.dbq j h1 e
  ·have := hQW j e; have := hx.lt; omega
 ·have hj2 : Bv.ownBlock ≠ some j := fun e => by have := hB j e; omega
  exact (hne j (by omega) hj2 (by omega)).trans (hX.keep j hj hq)
theorem PgW.more (h : PgW w W0 z qv0 B N Q qv Bv Nv W) {A : Option Addr} {m : Nat} {ys : List Ln} (hr : kLn.row W (fun j => j < w.heap.size) A m ys) (c : Nat) (hm : Q.length + m ≤ 100000000) :
  ∃ A' c' w', (Builtin.append_ #[82, 82] 82 #[qv, .slice A m c]).run Tryz.prog W = .ok (.slice A' (Q.length + m) c') w' ∧ Ext w w' ∧ PgW w W0 z qv0 B N (Q ++ ys) (.slice A' (Q.length + m) c') Bv Nv w' := by
 have hzW := lt_of_block h.box
 have hNW := Lay.own_lt h.no
 have hBW := Lay.own_lt h.bo
 have hQW := Lay.que_lt h.qo
 obtain ⟨A', c', w', r1, r2, r3, r4, r5, r6⟩ := Lay.que_append (k := kLn) (Pr := Tryz.prog) (t := 82) Tryz.underlying82 info86 rfl (by decide) (by omega) h.qo (Lay.row_mono hr fun j hj _ => ⟨hj, fun e => by have := hQW j e; omega⟩) c hm h.ext.lt
 have hxw : Ext w w' := Below.trans h.ext (r3 _ (Nat.le_refl _))
 refine ⟨A', c', w', r1, hxw, (r4 z hzW fun e => h.qz z e rfl).trans h.box, own_move h.bo r5 (fun j hj hl => r4 j hl ?_) (fun j hj hl => ⟨hj.1, hj.2.1, fun e => ?_⟩), own_move h.no r5 (fun j hj hl => r4 j hl ?_) (fun j hj hl => ⟨hj.1, hj.2.1, fun e => ?_⟩), r2, h.dbn, fun j hj e => ?_, fun j hj e => ?_, fun j hj => ?_, h.q0, fun j hj hq => ?_, h.wz, hxw⟩
 ·rcases hj with hj | hj
  ·exact hj.2.2
  ·exact h.dbq j hj
 ·rcases r6 j e with h1 | h1
  ·exact hj.2.2 h1
  ·omega
 ·rcases hj with hj | hj
  ·exact hj.2.2
  ·exact h.dnq j hj
 ·rcases r6 j e with h1 | h1
  ·exact hj.2.2 h1
  ·omega
 ·rcases r6 j e with h1 | h1
  ·exact h.dbq j hj h1
  ·have := hBW j hj; omega
 ·rcases r6 j e with h1 | h1
  ·exact h.dnq j hj h1
  ·have := hNW j hj; omega
 ·rcases r6 j hj with h1 | h1
  ·exact h.ow j h1
  ·exact .inr (by omega)
 ·refine (r4 j (by omega) fun e => ?_).trans (h.keep j hj hq)
  rcases h.ow j e with h1 | h1
  ·exact hq h1
  ·omega
def OutW (w : World) (qv ov : Value) (pgs : List Pg) (W : World) : Prop := kPg.own 84 W w.heap.size (fun j => w.heap.size ≤ j ∧ qv.ownBlock ≠ some j) ov pgs ∧ ∀ j, ov.ownBlock = some j → qv.ownBlock ≠ some j
theorem PgW.done (h : PgW w W0 z qv0 B N Q qv Bv Nv W) (hz : z = W0.heap.size) {ov : Value} {pgs : List Pg} (ho : OutW w qv0 ov pgs W0) (hl : pgs.length < 1000000) :
  ∃ A' c' w', (Builtin.append_ #[106, 106] 106 #[ov, .slice (some ⟨W.heap.size, 0, none⟩) 1 1]).run Tryz.prog (W.alloc (.cells #[.int .i64 0, .int .i64 0, .int .i64 0, .int .i64 0, Bv, Nv] 84)) = .ok (.slice A' (pgs.length + 1) c') w' ∧
   OutW w qv (.slice A' (pgs.length + 1) c') (pgs ++ [⟨0, 0, 0, 0, B, N⟩]) w' ∧ kLn.que 86 w' w.heap.size (fun j => j < w.heap.size) qv Q ∧ Ext w w' := by
 subst hz
 obtain ⟨ho1, ho2⟩ := ho
 have hzW := lt_of_block h.box
 have hNW := Lay.own_lt h.no
 have hBW := Lay.own_lt h.bo
 have hQW := Lay.que_lt h.qo
 have hOW := Lay.own_lt ho1
 have h1 : kPg.own 84 W w.heap.size (fun j => w.heap.size ≤ j ∧ qv.ownBlock ≠ some j) ov pgs := own_move ho1 (by omega) (fun j hj hl => h.keep j hl (by
   rcases hj with hj | hj
   ·exact hj.2
   ·exact ho2 j hj)) fun j hj hl => ⟨hj.1, fun e => by
  rcases h.ow j e with h1 | h1
  ·exact hj.2 h1
  ·omega⟩
 obtain ⟨A7, c7, e7, hc7, hr7⟩ := Lay.own_row h.bo
 obtain ⟨A8, c8, e8, hc8, hr8⟩ := Lay.own_row h.no
 have hq : ∀ j, ov.ownBlock = some j → qv.ownBlock ≠ some j := fun j hj e => by
  rcases h.ow j e with h1 | h1
  ·exact ho2 j hj h1
  ·have := hOW j hj; omega
 have hwz := h.wz
 obtain ⟨A', c', w', r1, r2, r3, r4, r5, r6⟩ := own_app1 (k := kPg) (Pr := Tryz.prog) (t := 106) Tryz.underlying106 info84 rfl (by decide) (by omega) h1 (by omega) (cs := #[.int .i64 0, .int .i64 0, .int .i64 0, .int .i64 0, Bv, Nv]) (T := 84) (x := ⟨0, 0, 0, 0, B, N⟩)
  (kPg_rep.2 ⟨A7, _, c7, A8, _, c8, by rw [e7, e8], hc7, hc8, Lay.row_mono hr7 fun j hj hl => by
   rcases hj with hj | hj
   ·exact ⟨⟨by omega, hj.2.2⟩, fun e => by have := hOW j e; omega⟩
   ·exact ⟨⟨by have := hBW j hj; omega, h.dbq j hj⟩, fun e => by have := hOW j e; have := hBW j hj; omega⟩, Lay.row_mono hr8 fun j hj hl => by
   rcases hj with hj | hj
   ·exact ⟨⟨by omega, hj.2.2⟩, fun e => by have := hOW j e; omega⟩
   ·exact ⟨⟨by have := hNW j hj; omega, h.dnq j hj⟩, fun e => by have := hOW j e; have := hNW j hj; omega⟩⟩) 1 (by omega)
 refine ⟨A', c', w', r1, ⟨r2, fun j hj e => ?_⟩, Lay.que_keep h.qo r5 fun j hj hl => r4 j hl ?_, Below.trans h.ext (r3 _ (Nat.le_refl _))⟩
 ·rcases r6 j hj with h1 | h1
  ·exact hq j h1 e
  ·have := hQW j e; omega
 ·intro e
  rcases hj with hj | hj
  ·have := hOW j e; omega
  ·exact hq j e hj
end
section
theorem fits_eq {h : Int} {q : List Ln} {l s : Nat} (hi : FillI h q l (s : Int)) (x : Ln) : fitsR l s x.nts.length ((q.length - s : Nat) : Int) h = fitsP h q x l (s : Int) := by
 have h1 := hi.le
 unfold fitsR fitsP roomP usedN
 cases hx : x.nts with
 | nil =>
  simp only [List.length_nil, if_true]
  exact decide_eq_decide.2 (by omega)
 | cons a r =>
  rw [if_neg (by simp), if_neg (by simp)]
  exact decide_eq_decide.2 (by omega)
theorem show_step {h : Int} {q' : List Ln} {l s j : Nat} (h1 : s ≤ j) (h2 : (j : Int) ≤ showP h q' (l + 1) (s : Int)) :
  (j < q'.length ∧ (l : Int) + j + 3 ≤ h → ((j + 1 : Nat) : Int) ≤ showP h q' (l + 1) (s : Int)) ∧ (¬ (j < q'.length ∧ (l : Int) + j + 3 ≤ h) → (j : Int) = showP h q' (l + 1) (s : Int)) := by
 unfold showP roomP at *
 constructor
 ·intro h3
  split at h2
  ·next h4 => rw [if_pos h4]; omega
  ·next h4 => omega
 ·intro h3
  split at h2
  ·next h4 => rw [if_pos h4]; omega
  ·next h4 => rw [if_neg h4]; omega
theorem take_more {q e : List Ln} {s : Nat} (h : s ≤ q.length) : (q ++ e).take s = q.take s := List.take_append_of_le_length h
theorem drop_more {q e : List Ln} {s : Nat} (h : s ≤ q.length) : (q ++ e).drop s = q.drop s ++ e := List.drop_append_of_le_length h
theorem take_one {q : List Ln} {s : Nat} {x : Ln} (h : q[s]? = some x) : q.take (s + 1) = q.take s ++ [x] := by rw [List.take_add_one, h]; rfl
theorem drop_one {q : List Ln} {s : Nat} : (q.drop s).drop 1 = q.drop (s + 1) := by rw [List.drop_drop]
theorem leftP_cons (notes : List (List Ln)) (x : Ln) (r q : List Ln) : leftP notes (x :: r) q = leftP notes r (q ++ notesOf notes x) + 1 := by
 unfold leftP
 simp only [List.map_cons, List.sum_cons, List.length_append]
 omega
theorem LnsB.drop {l : List Ln} (h : LnsB l) (k : Nat) : LnsB (l.drop k) := fun x hx => h x (List.mem_of_mem_drop hx)
theorem LnsB.app {l r : List Ln} (h : LnsB l) (k : LnsB r) : LnsB (l ++ r) := fun x hx => by
 rcases List.mem_append.1 hx with hx | hx
 ·exact h x hx
 ·exact k x hx
theorem lnsB_notes {notes : List (List Ln)} (h : ∀ l ∈ notes, LnsB l) (x : Ln) : LnsB (notesOf notes x) := fun y hy => by
 unfold notesOf at hy
 obtain ⟨n, _, hn⟩ := List.mem_flatMap.1 hy
 cases hl : notes[n.toNat]? with
 | none => rw [hl] at hn; simp at hn
 | some l => rw [hl] at hn; exact h l (List.mem_of_getElem? hl) y hn
def slen (v : Go.Value) : Nat := match v with | .slice _ n _ => n | _ => 0
open Go in
def VsO (w : World) (M : Nat) (h : Int) (notes : List (List Ln)) (body : List Ln) (all : List (List Ln × List Ln)) (s9 s10 s11 : Value) (W : World) : Prop :=
 ∃ (a : Nat) (q : List Ln) (pgs : List (List Ln × List Ln)), a ≤ body.length ∧ s11 = .int .i64 a ∧ OutW w s10 s9 (pgs.map pgOf) W ∧ kLn.que 86 W w.heap.size (fun j => j < w.heap.size) s10 q ∧
  all = pgs ++ setF h notes (leftP notes (body.drop a) q) (body.drop a) q ∧ pgs.length + leftP notes (body.drop a) q ≤ M ∧ LnsB q ∧ Ext w W
open Go in
def VsA (w W0 : World) (z : Nat) (qv0 : Value) (h : Int) (q : List Ln) (s10 : Value) (W : World) : Prop := ∃ (s : Nat) (Nv : Value), s ≤ q.length ∧ (s : Int) ≤ h - 1 ∧ PgW w W0 z qv0 [] (q.take s) (q.drop s) s10 (.slice none 0 0) Nv W
open Go in
def VsB (w W0 : World) (z : Nat) (qv0 : Value) (M : Nat) (h : Int) (notes : List (List Ln)) (body : List Ln) (a : Nat) (r0 : Nat × List Ln × Int) (s10 s11 : Value) (W : World) : Prop :=
 ∃ (l s k : Nat) (q : List Ln) (Bv Nv : Value), k = a + l ∧ k ≤ body.length ∧ s11 = .int .i64 k ∧ FillI h q l (s : Int) ∧ fillP h notes (body.drop k) q l (s : Int) = r0 ∧ LnsB q ∧ leftP notes (body.drop k) q ≤ M ∧
  PgW w W0 z qv0 ((body.drop a).take l) (q.take s) (q.drop s) s10 Bv Nv W
open Go in
def VsC (w W0 : World) (z : Nat) (qv0 : Value) (B N Q : List Ln) (notes : List (List Ln)) (nts : List Int) (s10 s13 : Value) (W : World) : Prop :=
 ∃ (j : Nat) (Bv Nv : Value), j ≤ nts.length ∧ s13 = .int .i64 j ∧ PgW w W0 z qv0 B N (Q ++ notesUp notes (nts.take j)) s10 Bv Nv W
open Go in
def VsD (w W0 : World) (z : Nat) (qv0 : Value) (h : Int) (B q : List Ln) (l s : Nat) (s10 : Value) (W : World) : Prop :=
 ∃ (j : Nat) (Bv Nv : Value), s ≤ j ∧ (j : Int) ≤ showP h q (l + 1) (s : Int) ∧ PgW w W0 z qv0 B (q.take j) (q.drop j) s10 Bv Nv W
end
end Go.Proofs.YtdbnddmncbjobaaGreatDoor