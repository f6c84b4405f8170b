/- rollbookref28.Book: walked. -/
import Derived.Test.YtdbnddmncbjobaaGreatDoorQaz
namespace Go.Proofs.YtdbnddmncbjobaaGreatDoor
section
open Go Go.RowKit

/-- The section k of a generated book of which fr sections are frozen. -/
structure SecOk (fr k : Nat) (x : Se) : Prop where
  ent : 2 * (k : Int) ≤ x.ent ∧ x.ent ≤ 2 * (k : Int) + 1
  fz : x.fz = decide (k < fr)
  vs : ∃ m : Nat, m ≤ 2 ∧ (m ≠ 0 → k < fr) ∧ x.vers = (10 - (k : Int)) :: (List.range m).map (fun (j : Nat) => 30 + 7 * (k : Int) - 3 * (j : Int)) ∧ x.texts.length = m + 1
  tx : ∀ t ∈ x.texts, OkT t
structure OkG (b : Bk) : Prop where
  m0 : 500 ≤ b.ms
  m1 : b.ms ≤ 2000
  h0 : 4 ≤ b.ht
  h1 : b.ht ≤ 100
  n : b.secs.length ≤ 4
  s : ∃ fr : Nat, ∀ (k : Nat) (x : Se), b.secs[k]? = some x → SecOk fr k x
theorem OkG.okB {b : Bk} (h : OkG b) : OkB b 4 3 := by
  obtain ⟨fr, hs⟩ := h.s
  have hm : ∀ x ∈ b.secs, ∃ k, SecOk fr k x := fun x hx => by
    obtain ⟨k, hk⟩ := List.getElem?_of_mem hx
    exact ⟨k, hs k x hk⟩
  refine ⟨h.m0, h.m1, h.h0, h.h1, h.n, fun x hx => ?_, fun x hx => ?_, ?_⟩
  · obtain ⟨k, hk⟩ := hm x hx
    obtain ⟨m, h1, _, h2, h3⟩ := hk.vs
    exact ⟨by rw [h2, h3]; simp, by rw [h2]; simp, by omega⟩
  · obtain ⟨k, hk⟩ := hm x hx; exact hk.tx
  · rw [List.nodup_iff_pairwise_ne, List.pairwise_iff_getElem]
    intro i j hi hj hij
    rw [List.length_map] at hi hj
    have h1 := (hs i _ (List.getElem?_eq_getElem hi)).ent
    have h2 := (hs j _ (List.getElem?_eq_getElem hj)).ent
    intro e9
    rw [List.getElem_map, List.getElem_map] at e9
    omega
theorem own_new {β : Type} {k : Lay β} {X : World} {base : Nat} {P : Nat → Prop} {x : β} {cs : Array Value} {e : TypeId} (hb : base ≤ X.heap.size) (hr : k.rep X (fun j => P j ∧ j ≠ X.heap.size) x cs.toList) :
    k.own e (X.alloc (.cells cs e)) base P (.slice (some ⟨X.heap.size, 0, none⟩) 1 1) [x] := by
  obtain ⟨d0, hd0⟩ : ∃ d0 : Cs k.sz, ccf d0 = cs.toList := ⟨⟨cs.toList, k.len hr, k.one hr⟩, rfl⟩
  have hsz : cs.size = k.sz := by have := k.len hr; simpa using this
  refine ⟨[d0], ?_, rfl, fun i d y hd hy => ?_⟩
  · unfold OL
    have hg : gcells ccf [d0] = cs.toList := by simp [gcells, hd0]
    rw [hg]
    refine ⟨by simp [hsz], .inr ⟨X.heap.size, 1, cs, rfl, hb, heap_alloc_new X _, by simp, by simp [maxLen], by simp [hsz], ?_⟩⟩
    rw [List.length_singleton, Nat.one_mul, ← hsz]
    exact List.take_of_length_le (by simp)
  · cases i with
    | zero =>
      injection hd with hd
      injection hy with hy
      subst hd hy
      have h9 : k.rep X (fun j => P j ∧ j ≠ X.heap.size) x (ccf d0) := by rw [hd0]; exact hr
      exact k.ext (k.mono h9 fun j hj _ => ⟨hj.1, fun e => hj.2 (by have : some X.heap.size = some j := e; injection this with this; exact this.symm)⟩) ((Ext.refl X).alloc _)
    | succ i => cases hd
/-- Between two rounds of the outer loop: so many sections. -/
structure BgS (w : World) (ms ht : Int) (fr : Nat) (secs : List Se) (vS : Value) (W : World) : Prop where
  x : Ext w W
  r : W.heap[w.heap.size]? = some (.cells #[.int .i64 0, .int .i64 0, .slice none 0 0] 27 (0, 0))
  b : W.heap[w.heap.size + 1]? = some (.cells #[.int .i64 ms, .int .i64 ht, vS] 27 (0, 0))
  own : kSe.own 46 W (w.heap.size + 2) (fun j => w.heap.size + 2 ≤ j) vS secs
  ok : ∀ (k : Nat) (x : Se), secs[k]? = some x → SecOk fr k x
theorem BgS.size {w : World} {ms ht : Int} {fr : Nat} {secs : List Se} {vS : Value} {W : World} (h : BgS w ms ht fr secs vS W) : w.heap.size + 2 ≤ W.heap.size := lt_of_block h.b
theorem BgS.ext {w : World} {ms ht : Int} {fr : Nat} {secs : List Se} {vS : Value} {W W' : World} (h : BgS w ms ht fr secs vS W) (hx : Ext W W') : BgS w ms ht fr secs vS W' :=
  ⟨h.x.trans hx, (hx.block _ (lt_of_block h.r)).trans h.r, (hx.block _ (lt_of_block h.b)).trans h.b, Lay.own_ext h.own hx, h.ok⟩
def BgR (w : World) (ms ht : Int) (fr n : Nat) (s6 : Value) (W : World) : Prop := ∃ (secs : List Se) (A : Option Addr) (c : Nat), secs.length ≤ n ∧ s6 = .int .i64 secs.length ∧ BgS w ms ht fr secs (.slice A secs.length c) W
/-- What lies below the section that is being made. -/
structure Low (w : World) (ms ht : Int) (fr : Nat) (secs : List Se) (vS : Value) (Bs : Nat) (W : World) : Prop where
  x : Ext w W
  r : W.heap[w.heap.size]? = some (.cells #[.int .i64 0, .int .i64 0, .slice none 0 0] 27 (0, 0))
  b : W.heap[w.heap.size + 1]? = some (.cells #[.int .i64 ms, .int .i64 ht, vS] 27 (0, 0))
  own : kSe.own 46 W (w.heap.size + 2) (fun j => w.heap.size + 2 ≤ j ∧ j < Bs) vS secs
  ok : ∀ (k : Nat) (x : Se), secs[k]? = some x → SecOk fr k x
  hb : w.heap.size + 2 ≤ Bs
  hS : ∀ j, vS.ownBlock = some j → j < Bs
theorem Low.keep {w : World} {ms ht : Int} {fr : Nat} {secs : List Se} {vS : Value} {Bs : Nat} {W W' : World} (h : Low w ms ht fr secs vS Bs W) (hk : Below Bs W W') : Low w ms ht fr secs vS Bs W' :=
  ⟨Below.trans h.x (hk.mono (by have := h.hb; omega)), (hk.block _ (by have := h.hb; omega)).trans h.r, (hk.block _ (by have := h.hb; omega)).trans h.b, Lay.own_keep h.own hk.size (fun j hj _ => by
    rcases hj with hj | hj
    · exact hk.block j hj.2
    · exact hk.block j (h.hS j hj)), h.ok, h.hb, h.hS⟩
theorem BgS.low {w : World} {ms ht : Int} {fr : Nat} {secs : List Se} {vS : Value} {W : World} (h : BgS w ms ht fr secs vS W) : Low w ms ht fr secs vS W.heap.size W :=
  ⟨h.x, h.r, h.b, Lay.own_mono h.own fun _ hj hl => ⟨hj, hl⟩, h.ok, h.size, fun j hj => (Lay.own_lt h.own j hj).2⟩
/-- A section is being made: its block zs, its versions, its texts. -/
structure InS (w : World) (ms ht : Int) (fr : Nat) (secs : List Se) (vS : Value) (Bs zs : Nat) (ent : Int) (fz : Bool) (vV vT : Value) (vers : List Int) (texts : List Tx) (W : World) : Prop where
  low : Low w ms ht fr secs vS Bs W
  s : W.heap[zs]? = some (.cells #[.int .i64 ent, .bool fz, vV, vT] 46 (0, 0))
  ov : kInt.own 3 W Bs (fun _ => False) vV vers
  ot : kTx.own 53 W Bs (fun j => Bs ≤ j ∧ j ≠ zs ∧ vV.ownBlock ≠ some j) vT texts
  d1 : vV.ownBlock ≠ some zs
  d2 : vT.ownBlock ≠ some zs
  d3 : ∀ j, vV.ownBlock = some j → vT.ownBlock ≠ some j
  hz : Bs ≤ zs
theorem InS.lt {w : World} {ms ht : Int} {fr : Nat} {secs : List Se} {vS : Value} {Bs zs : Nat} {ent : Int} {fz : Bool} {vV vT : Value} {vers : List Int} {texts : List Tx} {W : World} (h : InS w ms ht fr secs vS Bs zs ent fz vV vT vers texts W) : zs < W.heap.size := lt_of_block h.s
theorem InS.ext {w : World} {ms ht : Int} {fr : Nat} {secs : List Se} {vS : Value} {Bs zs : Nat} {ent : Int} {fz : Bool} {vV vT : Value} {vers : List Int} {texts : List Tx} {W W' : World} (h : InS w ms ht fr secs vS Bs zs ent fz vV vT vers texts W) (hx : Ext W W') : InS w ms ht fr secs vS Bs zs ent fz vV vT vers texts W' :=
  ⟨h.low.keep (Below.mono hx (by have := h.lt; have := h.hz; omega)), (hx.block _ h.lt).trans h.s, Lay.own_ext h.ov hx, Lay.own_ext h.ot hx, h.d1, h.d2, h.d3, h.hz⟩
theorem InS.appV {w : World} {ms ht : Int} {fr : Nat} {secs : List Se} {vS : Value} {Bs zs : Nat} {ent : Int} {fz : Bool} {vV vT : Value} {vers : List Int} {texts : List Tx} {W : World} (h : InS w ms ht fr secs vS Bs zs ent fz vV vT vers texts W) (x : Int) (hm : vers.length ≤ 1000) :
    ∃ A' c' w', (Builtin.append_ #[22, 22] 22 #[vV, .slice (some ⟨W.heap.size, 0, none⟩) 1 1]).run Tryz.prog (W.alloc (.cells #[.int .i64 x] 3)) = .ok (.slice A' (vers.length + 1) c') w' ∧
      w'.heap[zs]? = some (.cells #[.int .i64 ent, .bool fz, vV, vT] 46 (0, 0)) ∧ InS w ms ht fr secs vS Bs zs ent fz (.slice A' (vers.length + 1) c') vT (vers ++ [x]) texts (w'.setCell ⟨zs, 2, none⟩ (.slice A' (vers.length + 1) c')) := by
  have hlz := h.lt
  have hzb := h.hz
  obtain ⟨A', c', w', r1, r2, r3, r4, r5, r6⟩ := own_app1 (k := kInt) (Pr := Tryz.prog) (t := 22) Tryz.underlying22 info3 rfl (by decide) (by omega) h.ov (by omega) (cs := #[.int .i64 x]) (T := 3) (x := x) rfl 1 (by omega)
  have hzs : w'.heap[zs]? = some (.cells #[.int .i64 ent, .bool fz, vV, vT] 46 (0, 0)) := (r4 zs hlz h.d1).trans h.s
  have g1 : (Value.slice A' (vers.length + 1) c').ownBlock ≠ some zs := fun e => by
    rcases r6 zs e with e | e
    · exact h.d1 e
    · omega
  refine ⟨A', c', w', r1, hzs, ⟨(h.low.keep (r3 Bs (Nat.le_refl _))).keep (Below.setCell (Below.refl _ _) hzb _), ?_, Lay.own_keep r2 (by simp) ?_, ?_, g1, h.d2, ?_, hzb⟩⟩
  · exact heap_setCell_same w' zs 2 _ 46 _ hzs
  · intro j hj _
    rcases hj with hj | hj
    · exact hj.elim
    · exact heap_setCell_other w' ⟨zs, 2, none⟩ j _ (fun e => g1 (hj.trans (congrArg some e)))
  · have h1 := Lay.own_mono (P' := fun j => (Bs ≤ j ∧ j ≠ zs ∧ vV.ownBlock ≠ some j) ∧ (Value.slice A' (vers.length + 1) c').ownBlock ≠ some j) h.ot fun j hj hl => ⟨hj, fun e => by
      rcases r6 j e with e | e
      · exact hj.2.2 e
      · omega⟩
    have h2 := Lay.own_keep h1 r5 fun j hj hl => r4 j hl (by
      rcases hj with hj | hj
      · exact hj.1.2.2
      · exact fun e => h.d3 j e hj)
    have h3 := Lay.own_keep (W' := w'.setCell ⟨zs, 2, none⟩ (.slice A' (vers.length + 1) c')) h2 (by simp) fun j hj _ => heap_setCell_other w' ⟨zs, 2, none⟩ j _ (by
      rcases hj with hj | hj
      · exact hj.1.2.1
      · exact fun e => h.d2 (hj.trans (congrArg some e)))
    exact Lay.own_mono h3 fun j hj _ => ⟨hj.1.1, hj.1.2.1, hj.2⟩
  · intro j hj e
    rcases r6 j hj with h9 | h9
    · exact h.d3 j h9 e
    · have := (Lay.own_lt h.ot j e).2; omega
theorem InS.appT {w : World} {ms ht : Int} {fr : Nat} {secs : List Se} {vS : Value} {Bs zs : Nat} {ent : Int} {fz : Bool} {vV vT : Value} {vers : List Int} {texts : List Tx} {W W1 : World} (h : InS w ms ht fr secs vS Bs zs ent fz vV vT vers texts W) (hx : Ext W W1) {t : Tx} {A1 A2 : Option Addr} {n1 c1 n2 c2 : Nat} (hg : GT W.heap.size t (.agg #[.slice A1 n1 c1, .slice A2 n2 c2]) W1) (hm : texts.length ≤ 1000) :
    ∃ A' c' w', (Builtin.append_ #[44, 44] 44 #[vT, .slice (some ⟨W1.heap.size, 0, none⟩) 1 1]).run Tryz.prog (W1.alloc (.cells #[.slice A1 n1 c1, .slice A2 n2 c2] 53)) = .ok (.slice A' (texts.length + 1) c') w' ∧
      w'.heap[zs]? = some (.cells #[.int .i64 ent, .bool fz, vV, vT] 46 (0, 0)) ∧ InS w ms ht fr secs vS Bs zs ent fz vV (.slice A' (texts.length + 1) c') vers (texts ++ [t]) (w'.setCell ⟨zs, 3, none⟩ (.slice A' (texts.length + 1) c')) := by
  have hlz := h.lt
  have hzb := h.hz
  have h' := h.ext hx
  have hvl := Lay.own_lt h.ov
  have htl := Lay.own_lt h.ot
  obtain ⟨B1, m1, d1, B2, m2, d2, e9, k1, k2, k3, k4⟩ := hg
  have e10 := (Value.agg.inj e9)
  simp only [Array.mk.injEq, List.cons.injEq, Value.slice.injEq, and_true] at e10
  obtain ⟨⟨rfl, rfl, rfl⟩, rfl, rfl, rfl⟩ := e10
  have hP : ∀ j, W.heap.size ≤ j → j < W1.heap.size → (Bs ≤ j ∧ j ≠ zs ∧ vV.ownBlock ≠ some j) ∧ vT.ownBlock ≠ some j := fun j hj _ => ⟨⟨by omega, by omega, fun e => by have := (hvl j e).2; omega⟩, fun e => by have := (htl j e).2; omega⟩
  obtain ⟨A', c', w', r1, r2, r3, r4, r5, r6⟩ := own_app1 (k := kTx) (Pr := Tryz.prog) (t := 44) Tryz.underlying44 info53 rfl (by decide) (by omega) h'.ot (by have := hx.lt; omega) (cs := #[.slice A1 n1 c1, .slice A2 n2 c2]) (T := 53) (x := t)
    (kTx_rep.2 ⟨_, _, _, _, _, _, rfl, k1, k2, Lay.row_mono k3 hP, Lay.row_mono k4 hP⟩) 1 (by omega)
  have hzs : w'.heap[zs]? = some (.cells #[.int .i64 ent, .bool fz, vV, vT] 46 (0, 0)) := (r4 zs h'.lt h.d2).trans h'.s
  have g1 : (Value.slice A' (texts.length + 1) c').ownBlock ≠ some zs := fun e => by
    rcases r6 zs e with e | e
    · exact h.d2 e
    · have := h'.lt; omega
  refine ⟨A', c', w', r1, hzs, ⟨(h'.low.keep (r3 Bs (Nat.le_refl _))).keep (Below.setCell (Below.refl _ _) hzb _), ?_, ?_, Lay.own_keep r2 (by simp) ?_, h.d1, g1, ?_, hzb⟩⟩
  · exact heap_setCell_same w' zs 3 _ 46 _ hzs
  · have h2 := Lay.own_keep h'.ov r5 fun j hj hl => r4 j hl (by
      rcases hj with hj | hj
      · exact hj.elim
      · exact h.d3 j hj)
    refine Lay.own_keep h2 (by simp) fun j hj _ => heap_setCell_other w' ⟨zs, 3, none⟩ j _ ?_
    rcases hj with hj | hj
    · exact hj.elim
    · exact fun e => h.d1 (hj.trans (congrArg some e))
  · intro j hj _
    refine heap_setCell_other w' ⟨zs, 3, none⟩ j _ ?_
    rcases hj with hj | hj
    · exact hj.2.1
    · exact fun e => g1 (hj.trans (congrArg some e))
  · intro j hj e
    rcases r6 j e with h9 | h9
    · exact h.d3 j hj h9
    · have := (hvl j hj).2; have := hx.lt; omega
theorem InS.firstT {w : World} {ms ht : Int} {fr : Nat} {secs : List Se} {vS : Value} {Bs zs : Nat} {ent : Int} {fz : Bool} {vV : Value} {vers : List Int} {W W1 : World} (h : InS w ms ht fr secs vS Bs zs ent fz vV (.slice none 0 0) vers [] W) (hx : Ext W W1) {t : Tx} {A1 A2 : Option Addr} {n1 c1 n2 c2 : Nat} (hg : GT W.heap.size t (.agg #[.slice A1 n1 c1, .slice A2 n2 c2]) W1) :
    InS w ms ht fr secs vS Bs zs ent fz vV (.slice (some ⟨W1.heap.size, 0, none⟩) 1 1) vers [t] ((W1.setCell ⟨zs, 3, none⟩ (.slice (some ⟨W1.heap.size, 0, none⟩) 1 1)).alloc (.cells #[.slice A1 n1 c1, .slice A2 n2 c2] 53)) := by
  have hlz := h.lt
  have hzb := h.hz
  have h' := h.ext hx
  have hxl := hx.lt
  have hvl := Lay.own_lt h.ov
  obtain ⟨B1, m1, d1, B2, m2, d2, e9, k1, k2, k3, k4⟩ := hg
  have e10 := (Value.agg.inj e9)
  simp only [Array.mk.injEq, List.cons.injEq, Value.slice.injEq, and_true] at e10
  obtain ⟨⟨rfl, rfl, rfl⟩, rfl, rfl, rfl⟩ := e10
  obtain ⟨Y, hY⟩ : ∃ Y, W1.setCell ⟨zs, 3, none⟩ (.slice (some ⟨W1.heap.size, 0, none⟩) 1 1) = Y := ⟨_, rfl⟩
  have hYs : Y.heap.size = W1.heap.size := by rw [← hY]; simp
  have hYk : ∀ j, j ≠ zs → Y.heap[j]? = W1.heap[j]? := fun j hj => by rw [← hY]; exact heap_setCell_other W1 ⟨zs, 3, none⟩ j _ hj
  have hYz : Y.heap[zs]? = some (.cells #[.int .i64 ent, .bool fz, vV, .slice (some ⟨W1.heap.size, 0, none⟩) 1 1] 46 (0, 0)) := by rw [← hY]; exact heap_setCell_same W1 zs 3 _ 46 _ h'.s
  have hYb : Below Bs W1 Y := by rw [← hY]; exact Below.setCell (Below.refl _ _) hzb _
  rw [hY]
  have hxa : Ext Y (Y.alloc (.cells #[.slice A1 n1 c1, .slice A2 n2 c2] 53)) := (Ext.refl Y).alloc _
  have hot : kTx.own 53 (Y.alloc (.cells #[.slice A1 n1 c1, .slice A2 n2 c2] 53)) Bs (fun j => Bs ≤ j ∧ j ≠ zs ∧ vV.ownBlock ≠ some j) (.slice (some ⟨Y.heap.size, 0, none⟩) 1 1) [t] := by
    refine own_new (by omega) (kTx_rep.2 ⟨_, _, _, _, _, _, rfl, k1, k2, ?_, ?_⟩)
    · exact Lay.row_mono (Lay.row_keep (Lay.row_mono (Q := fun j => W.heap.size ≤ j ∧ j < W1.heap.size) k3 fun j hj hl => ⟨hj, hl⟩) (by omega) fun j hj _ => hYk j (by omega)) fun j hj _ => ⟨⟨by omega, by omega, fun e => by have := (hvl j e).2; omega⟩, by omega⟩
    · exact Lay.row_mono (Lay.row_keep (Lay.row_mono (Q := fun j => W.heap.size ≤ j ∧ j < W1.heap.size) k4 fun j hj hl => ⟨hj, hl⟩) (by omega) fun j hj _ => hYk j (by omega)) fun j hj _ => ⟨⟨by omega, by omega, fun e => by have := (hvl j e).2; omega⟩, by omega⟩
  rw [hYs] at hot
  refine ⟨(h'.low.keep hYb).keep (Below.mono hxa (by omega)), (hxa.block _ (by omega)).trans hYz, Lay.own_ext (Lay.own_keep h'.ov (by omega) fun j hj hl => ?_) hxa, hot, h.d1, ?_, ?_, hzb⟩
  · rcases hj with hj | hj
    · exact hj.elim
    · exact hYk j fun e => h.d1 (hj.trans (congrArg some e))
  · intro e; have : some W1.heap.size = some zs := e; injection this; omega
  · intro j hj e
    have : some W1.heap.size = some j := e
    injection this with this
    have := (hvl j hj).2
    omega
/-- Between two rounds of the inner loop. -/
def InR (w : World) (ms ht : Int) (fr : Nat) (secs : List Se) (vS : Value) (Bs zs : Nat) (ent : Int) (fz : Bool) (v0 : Int) (i : Nat) (s8 : Value) (W : World) : Prop :=
  ∃ (k : Nat) (A B : Option Addr) (c d : Nat) (vers : List Int) (texts : List Tx), k ≤ 2 ∧ s8 = .int .i64 k ∧ (k ≠ 0 → fz = true) ∧ vers = v0 :: (List.range k).map (fun (j : Nat) => 30 + 7 * (i : Int) - 3 * (j : Int)) ∧ texts.length = k + 1 ∧ (∀ t ∈ texts, OkT t) ∧
    InS w ms ht fr secs vS Bs zs ent fz (.slice A (k + 1) c) (.slice B (k + 1) d) vers texts W
theorem InS.fin {w : World} {ms ht : Int} {fr : Nat} {secs : List Se} {vS : Value} {Bs zs : Nat} {ent : Int} {fz : Bool} {vV vT : Value} {vers : List Int} {texts : List Tx} {W : World} (h : InS w ms ht fr secs vS Bs zs ent fz vV vT vers texts W) (hm : secs.length ≤ 1000) (hok : SecOk fr secs.length ⟨ent, fz, vers, texts⟩) :
    ∃ A' c' w', (Builtin.append_ #[25, 25] 25 #[vS, .slice (some ⟨W.heap.size, 0, none⟩) 1 1]).run Tryz.prog (W.alloc (.cells #[.int .i64 ent, .bool fz, vV, vT] 46)) = .ok (.slice A' (secs.length + 1) c') w' ∧
      w'.heap[w.heap.size + 1]? = some (.cells #[.int .i64 ms, .int .i64 ht, vS] 27 (0, 0)) ∧ BgS w ms ht fr (secs ++ [⟨ent, fz, vers, texts⟩]) (.slice A' (secs.length + 1) c') (w'.setCell ⟨w.heap.size + 1, 2, none⟩ (.slice A' (secs.length + 1) c')) := by
  have hlz := h.lt
  have hzb := h.hz
  have hwb := h.low.hb
  obtain ⟨A1, c1, e1, k1, v1⟩ := own_rowN (Q := fun j => w.heap.size + 2 ≤ j ∧ vS.ownBlock ≠ some j) h.ov (fun j hj => hj.elim) (fun j hj _ => ⟨by omega, fun e => by have := h.low.hS j e; omega⟩)
  obtain ⟨A2, c2, e2, k2, v2⟩ := own_rowN (Q := fun j => w.heap.size + 2 ≤ j ∧ vS.ownBlock ≠ some j) h.ot (fun j hj _ => ⟨by omega, fun e => by have := h.low.hS j e; omega⟩) (fun j hj _ => ⟨by omega, fun e => by have := h.low.hS j e; omega⟩)
  have hoS := Lay.own_mono (P' := fun j => w.heap.size + 2 ≤ j) h.low.own fun j hj _ => hj.1
  have hSl := Lay.own_lt h.low.own
  obtain ⟨A', c', w', r1, r2, r3, r4, r5, r6⟩ := own_app1 (k := kSe) (Pr := Tryz.prog) (t := 25) Tryz.underlying25 info46 rfl (by decide) (by omega) hoS (by omega) (cs := #[.int .i64 ent, .bool fz, vV, vT]) (T := 46) (x := ⟨ent, fz, vers, texts⟩)
    (by rw [e1, e2]; exact kSe_rep.2 ⟨_, _, _, _, _, _, rfl, k1, k2, v1, v2⟩) 1 (by omega)
  have hb1 : w'.heap[w.heap.size + 1]? = some (.cells #[.int .i64 ms, .int .i64 ht, vS] 27 (0, 0)) := (r4 _ (by omega) (fun e => by have := (hSl _ e).1; omega)).trans h.low.b
  have hr1 : w'.heap[w.heap.size]? = _ := (r4 _ (by omega) (fun e => by have := (hSl _ e).1; omega)).trans h.low.r
  refine ⟨A', c', w', r1, hb1, ⟨?_, ?_, heap_setCell_same w' (w.heap.size + 1) 2 _ 27 _ hb1, Lay.own_keep r2 (by simp) ?_, ?_⟩⟩
  · exact Ext.setCell (p := ⟨w.heap.size + 1, 2, none⟩) (Below.trans h.low.x (r3 w.heap.size (by omega))) (by show w.heap.size ≤ w.heap.size + 1; omega) _
  · rw [heap_setCell_other w' ⟨w.heap.size + 1, 2, none⟩ w.heap.size _ (by show w.heap.size ≠ w.heap.size + 1; omega)]; exact hr1
  · intro j hj _
    refine heap_setCell_other w' ⟨w.heap.size + 1, 2, none⟩ j _ ?_
    show j ≠ w.heap.size + 1
    rcases hj with hj | hj
    · omega
    · have := (Lay.own_lt r2 j hj).1; omega
  · intro k x hk
    rw [List.getElem?_append] at hk
    split at hk
    · exact h.low.ok k x hk
    · next hlt =>
      have hk0 : k - secs.length = 0 := by
        have := (List.getElem?_eq_some_iff.1 hk).1
        simp at this; omega
      rw [hk0] at hk
      injection hk with hk
      subst hk
      rw [show k = secs.length by omega]
      exact hok
def BookGet (w : World) (e : Ending) (w' : World) : Prop := ∃ (b : Bk) (A : Option Addr) (n c : Nat), e = .returned (.agg #[.int .i64 b.ms, .int .i64 b.ht, .slice A n c]) ∧ OkG b ∧ n ≤ c ∧ kSe.row w' (fun j => w.heap.size ≤ j) A n b.secs ∧ Ext w w'
end
section
open Go Go.RowKit

set_option maxHeartbeats 8000000 in
set_option maxRecDepth 100000 in
theorem gbook_any (A : Option Addr) (c : Nat) (l : List Int) (w : World) (h : IL w A c l) (hl : l.length ≤ 9223372036854775807) :
    Calls Tryz.prog 39 #[.slice A l.length c] w (BookGet w) := by
  have HTX := Lib.hid (fun W (hW : Ext w W) (k : Nat) (hk : k ≤ 1000000) => gtextat_any A c l k W (h.ext hW) hl hk)
  obtain ⟨m, hm⟩ : ∃ m, m = l.length := ⟨_, rfl⟩
  have HP := Lib.hid (fun W (hW : Ext w W) (i k : Nat) (ii mm : Int) h1 h2 h3 h4 => (show Calls Tryz.prog 77 #[.slice A m c, .int .i64 ii, .int .i64 mm] W (fun e w' => e = .returned (.int .i64 (pkI l i k)) ∧ W = w') from by rw [hm]; exact pick_fix A c l i k W ii mm h1 h2 h3 h4 h.ok (h.sl.ext hW)))
  rw [← hm] at HTX ⊢
  clear hm h hl
  obtain ⟨k0, hk0, hk0b⟩ := pk_nat l 0 30 (by omega)
  obtain ⟨k1, hk1, hk1b⟩ := pk_nat l 1 5 (by omega)
  obtain ⟨n, hn, hnb⟩ := pk_nat l 2 5 (by omega)
  obtain ⟨fr, hfr, hfrb⟩ := pk_nat l 3 (n + 1) (by omega)
  have H0 := Lib.hid (fun W hW => (show Calls Tryz.prog 77 #[.slice A m c, .int .i64 0, .int .i64 30] W (fun e w' => e = .returned (.int .i64 (k0 : Int)) ∧ W = w') from by rw [← hk0]; exact HP.out W hW 0 30 0 30 rfl rfl (by omega) (by omega)))
  have H1 := Lib.hid (fun W hW => (show Calls Tryz.prog 77 #[.slice A m c, .int .i64 1, .int .i64 5] W (fun e w' => e = .returned (.int .i64 (k1 : Int)) ∧ W = w') from by rw [← hk1]; exact HP.out W hW 1 5 1 5 rfl rfl (by omega) (by omega)))
  have H2 := Lib.hid (fun W hW => (show Calls Tryz.prog 77 #[.slice A m c, .int .i64 2, .int .i64 5] W (fun e w' => e = .returned (.int .i64 (n : Int)) ∧ W = w') from by rw [← hn]; exact HP.out W hW 2 5 2 5 rfl rfl (by omega) (by omega)))
  have H3 := Lib.hid (fun W hW => (show Calls Tryz.prog 77 #[.slice A m c, .int .i64 3, .int .i64 ((n : Int) + 1)] W (fun e w' => e = .returned (.int .i64 (fr : Int)) ∧ W = w') from by rw [← hfr]; exact HP.out W hW 3 (n + 1) 3 _ rfl (by simp) (by omega) (by omega)))
  clear hk0 hk1 hn hfr
  go_enter Tryz.func39, Tryz.ntmps39
  have hx1 : Ext w (w.alloc (.cells #[.int .i64 0, .int .i64 0, .slice none 0 0] 27)) := (Ext.refl w).alloc _
  go_upto_region 2 with (first
    | (have hg := A1; clear hg; go_at_call 77; refine (H1.out _ hx1).mono ?_; rintro e w1 ⟨rfl, rfl⟩)
    | (go_at_call 77; refine (H0.out _ hx1).mono ?_; rintro e w1 ⟨rfl, rfl⟩; have A1 := Lib.hid True.intro))
  obtain ⟨wl, hwl⟩ : ∃ wl, ((w.alloc (.cells #[.int .i64 0, .int .i64 0, .slice none 0 0] 27)).alloc (.cells #[.int .i64 (500 + 20 * (k0 : Int)), .int .i64 (4 + (k1 : Int)), .slice none 0 0] 27)) = wl := ⟨_, rfl⟩
  obtain ⟨ms, hms⟩ : ∃ ms : Int, ms = 500 + 20 * (k0 : Int) := ⟨_, rfl⟩
  obtain ⟨ht, hht⟩ : ∃ ht : Int, ht = 4 + (k1 : Int) := ⟨_, rfl⟩
  have hS0 : BgS w ms ht fr [] (.slice none 0 0) wl := by
    refine ⟨by rw [← hwl]; exact hx1.alloc _, ?_, ?_, Lay.own_nil _ _ _ _ _, fun k x hk => by simp at hk⟩
    · rw [← hwl, heap_alloc_old _ _ _ (by simp)]; exact heap_alloc_at _ _ _ _ rfl
    · rw [← hwl, hms, hht]; exact heap_alloc_at _ _ _ _ (by simp)
  rw [hwl]
  have HM := Lib.hid (And.intro hms hht)
  have HS0 := Lib.hid hS0
  have HXL := Lib.hid hS0.x
  clear hwl hms hht hS0 hx1
  go_upto_region 3 with (first | (go_at_call 77; refine (H2.out _ HXL.out).mono ?_; rintro e w1 ⟨rfl, rfl⟩))
  go_upto_region 4 with (first | (go_at_call 77; refine (H3.out _ HXL.out).mono ?_; rintro e w1 ⟨rfl, rfl⟩))
  clear H0 H1 H2 H3 A1
  go_wp2_with fail
  go_loopw [6] (fun s6 W => BgR w ms ht fr n s6 W) (fun s6 _ => toM n s6)
  case atStart => exact ⟨[], none, 0, by simp, rfl, HS0.out⟩
  case round =>
    obtain ⟨secs, As, cs, hi, rfl, hS⟩ := hrel
    clear HS0 HXL
    obtain ⟨i, hie⟩ : ∃ i, secs.length = i := ⟨_, rfl⟩
    rw [hie] at hi hS ⊢
    have HI := Lib.hid hie
    have HS := Lib.hid hS
    clear hie hS
    by_cases hlt : i < n
    case neg =>
      obtain rfl : i = n := by omega
      have hni : ¬ ((i : Int) < (i : Int)) := by omega
      have k0 := cell_of HS.out.r (i := 0) (u := .int .i64 0) rfl
      have k1 := cell_of HS.out.r (i := 1) (u := .int .i64 0) rfl
      have k2 := cell_of HS.out.r (i := 2) (u := .slice none 0 0) rfl
      have f0 := frozen_of HS.out.r 0
      have f1 := frozen_of HS.out.r 1
      have f2 := frozen_of HS.out.r 2
      have b0 := cell_of HS.out.b (i := 0) (u := .int .i64 ms) rfl
      have b1 := cell_of HS.out.b (i := 1) (u := .int .i64 ht) rfl
      have b2 := cell_of HS.out.b (i := 2) (u := .slice As i cs) rfl
      go_wp2_with fail
      have hrow := own_rowN (Q := fun j => w.heap.size + 2 ≤ j) HS.out.own (fun j hj _ => hj) (fun j hj _ => hj)
      obtain ⟨A9, c9, e9, hc9, hr9⟩ := hrow
      rw [HI.out] at e9 hc9 hr9
      obtain ⟨rfl, _, rfl⟩ := Value.slice.inj e9
      refine bodyPost_ret (v := .agg #[.int .i64 ms, .int .i64 ht, .slice As i cs]) (by simp [results, Tryz.results39, go_sem, *]) rfl ?_
      obtain ⟨hm1, hm2⟩ := HM.out
      refine ⟨⟨ms, ht, secs⟩, As, i, cs, rfl, ⟨by show 500 ≤ ms; omega, by show ms ≤ 2000; omega, by show 4 ≤ ht; omega, by show ht ≤ 100; omega, by show secs.length ≤ 4; have := HI.out; omega, ⟨fr, HS.out.ok⟩⟩, hc9, ?_, ?_⟩
      · refine Lay.row_mono (Lay.row_keep hr9 (by simp) fun j hj _ => ?_) fun j hj _ => by omega
        rw [heap_setCell_other _ ⟨w.heap.size, 2, none⟩ j _ (by show j ≠ w.heap.size; omega), heap_setCell_other _ ⟨w.heap.size, 1, none⟩ j _ (by show j ≠ w.heap.size; omega), heap_setCell_other _ ⟨w.heap.size, 0, none⟩ j _ (by show j ≠ w.heap.size; omega)]
      · exact ((HS.out.x.setCell (p := ⟨w.heap.size, 0, none⟩) (Nat.le_refl _) _).setCell (p := ⟨w.heap.size, 1, none⟩) (Nat.le_refl _) _).setCell (p := ⟨w.heap.size, 2, none⟩) (Nat.le_refl _) _
    have hlI : (i : Int) < (n : Int) := by omega
    obtain ⟨k4, hk4, hk4b⟩ := pk_nat l (4 + i) 2 (by omega)
    have H4 := Lib.hid (fun W hW => (show Calls Tryz.prog 77 #[.slice A m c, .int .i64 (4 + (i : Int)), .int .i64 2] W (fun e w' => e = .returned (.int .i64 (k4 : Int)) ∧ W = w') from by rw [← hk4]; exact HP.out W hW (4 + i) 2 _ _ (by omega) rfl (by omega) (by omega)))
    clear hk4
    go_upto_region 8 with (first | (go_at_call 77; refine (H4.out _ HS.out.x).mono ?_; rintro e w1 ⟨rfl, rfl⟩))
    obtain ⟨Bs, hBs⟩ : ∃ Bs, wr.heap.size = Bs := ⟨_, rfl⟩
    obtain ⟨ent, hent⟩ : ∃ ent : Int, 2 * (i : Int) + (k4 : Int) = ent := ⟨_, rfl⟩
    obtain ⟨fz, hfz⟩ : ∃ fz : Bool, decide (i < fr) = fz := ⟨_, rfl⟩
    obtain ⟨v0, hv0⟩ : ∃ v0 : Int, 10 - (i : Int) = v0 := ⟨_, rfl⟩
    obtain ⟨w1, hw1⟩ : ∃ w1, (wr.alloc (.cells #[.int .i64 v0] 3)).alloc (.cells #[.int .i64 ent, .bool fz, .slice (some ⟨Bs, 0, none⟩) 1 1, .slice none 0 0] 46) = w1 := ⟨_, rfl⟩
    obtain ⟨zs, hzs⟩ : ∃ zs, Bs + 1 = zs := ⟨_, rfl⟩
    rw [hBs, hent, hfz, hv0]
    rw [hw1, hzs]
    have HIN := Lib.hid (show InS w ms ht fr secs (.slice As i cs) Bs zs ent fz (.slice (some ⟨Bs, 0, none⟩) 1 1) (.slice none 0 0) [v0] [] w1 from by
      have hlow := HS.out.low
      rw [hBs] at hlow
      have hxv : Ext wr (wr.alloc (.cells #[.int .i64 v0] 3)) := (Ext.refl wr).alloc _
      have hx1 : Ext wr w1 := by rw [← hw1]; exact hxv.alloc _
      have ho : kInt.own 3 (wr.alloc (.cells #[.int .i64 v0] 3)) Bs (fun _ => False) (.slice (some ⟨wr.heap.size, 0, none⟩) 1 1) [v0] := own_new (by omega) rfl
      rw [hBs] at ho
      refine ⟨hlow.keep (by rw [← hBs]; exact hx1), ?_, ?_, Lay.own_nil _ _ _ _ _, ?_, ?_, ?_, by omega⟩
      · rw [← hw1]; exact heap_alloc_at _ _ _ _ (by simp; omega)
      · rw [← hw1]; exact Lay.own_ext ho ((Ext.refl _).alloc _)
      · intro e; have : some Bs = some zs := e; injection this; omega
      · intro e; cases e
      · intro j _ e; cases e)
    have HSO := Lib.hid (And.intro hent (And.intro hfz hv0))
    have HB := Lib.hid hBs
    have HK4 := Lib.hid (show k4 ≤ 1 by omega)
    clear hBs hent hfz hv0 hw1 hzs
    have HT8 := Lib.hid (fun W (hW : Ext w W) => (show Calls Tryz.prog 87 #[.slice A m c, .int .i64 (12 + 6 * (i : Int))] W (TextGet W) from by
      have h9 := HTX.out W hW (12 + 6 * i) (by omega)
      rw [show ((12 + 6 * i : Nat) : Int) = 12 + 6 * (i : Int) by omega] at h9
      exact h9))
    have HT8' := Lib.hid (show Calls Tryz.prog 87 #[.slice A m c, .int .i64 (12 + 6 * (i : Int))] w1 (fun e w2 => ∃ t A1 n1 c1 A2 n2 c2, e = .returned (.agg #[.slice A1 n1 c1, .slice A2 n2 c2]) ∧ OkT t ∧ GT w1.heap.size t (.agg #[.slice A1 n1 c1, .slice A2 n2 c2]) w2 ∧ Ext w1 w2 ∧ w2.heap[zs]? = some (.cells #[.int .i64 ent, .bool fz, .slice (some ⟨Bs, 0, none⟩) 1 1, .slice none 0 0] 46 (0, 0))) from by
      refine (HT8.out w1 HIN.out.low.x).mono ?_
      rintro e w2 ⟨t, v, rfl, hok, hgt, hx⟩
      have hg2 := hgt
      obtain ⟨A1, n1, c1, A2, n2, c2, rfl, h1, h2, h3, h4⟩ := hgt
      exact ⟨t, A1, n1, c1, A2, n2, c2, rfl, hok, hg2, hx, (hx.block _ HIN.out.lt).trans HIN.out.s⟩)
    clear HT8
    go_upto_region 9 with (first | (go_at_call 87; refine (HT8'.out).mono ?_; rintro e w2 ⟨t, A1, n1, c1, A2, n2, c2, rfl, hok, hg, hx, hh⟩; have k3 := cell_of hh (i := 3) (u := .slice none 0 0) rfl; have f3 := frozen_of hh 3; have hzl := lt_of_block hh; have hzn : ¬ zs = w2.heap.size := (by omega); have HG := Lib.hid hg; have HX := Lib.hid hx; have HH := Lib.hid hh; have HOK := Lib.hid hok; clear hg hx hh hok))
    obtain ⟨w3, hw3⟩ : ∃ w3, ((w2.setCell ⟨zs, 3, none⟩ (.slice (some ⟨w2.heap.size, 0, none⟩) 1 1)).alloc (.cells #[.slice A1 n1 c1, .slice A2 n2 c2] 53)) = w3 := ⟨_, rfl⟩
    have hin3 := HIN.out.firstT HX.out HG.out
    obtain ⟨zt, hzt⟩ : ∃ zt, w2.heap.size = zt := ⟨_, rfl⟩
    rw [hzt] at hw3 hin3 ⊢
    rw [hw3] at hin3 ⊢
    have HIN3 := Lib.hid hin3
    clear hin3 hw3 hzt HIN HX HG HH HT8' hzl hzn k3 f3 H4
    obtain ⟨k8, hk8, hk8b⟩ := pk_nat l (8 + i) 3 (by omega)
    have H8 := Lib.hid (fun W hW => (show Calls Tryz.prog 77 #[.slice A m c, .int .i64 (8 + (i : Int)), .int .i64 3] W (fun e w' => e = .returned (.int .i64 (k8 : Int)) ∧ W = w') from by rw [← hk8]; exact HP.out W hW (8 + i) 3 _ _ (by omega) rfl (by omega) (by omega)))
    clear hk8
    go_wp2_with fail
    go_loopw [8] (fun s8 W => InR w ms ht fr secs (.slice As i cs) Bs zs ent fz v0 i s8 W) (fun s8 _ => toM 10 s8)
    case atStart => exact ⟨0, _, _, _, _, _, _, by omega, rfl, fun h => absurd rfl h, rfl, rfl, fun t ht => by (simp only [List.mem_singleton] at ht; subst ht; exact HOK.out), HIN3.out⟩
    case round =>
      clear HIN3 HS HOK
      rename World => wi
      obtain ⟨k, Av, Bt, cv, dt, vers, texts, hk2, rfl, hkf, hve, htl, hto, hIn⟩ := hrel
      have HVE := Lib.hid hve
      have HTL := Lib.hid htl
      have HTO := Lib.hid hto
      have HKF := Lib.hid hkf
      have HIN := Lib.hid hIn
      have s0 := cell_of hIn.s (i := 0) (u := .int .i64 ent) rfl
      have s1 := cell_of hIn.s (i := 1) (u := .bool fz) rfl
      have s2 := cell_of hIn.s (i := 2) (u := .slice Av (k + 1) cv) rfl
      have s3 := cell_of hIn.s (i := 3) (u := .slice Bt (k + 1) dt) rfl
      have f2 := frozen_of hIn.s 2
      have f3 := frozen_of hIn.s 3
      have hzl := hIn.lt
      clear hkf hve htl hto hIn
      by_cases hkk : k < k8 ∧ fz = true
      case neg =>
        have HSC := Lib.hid (show SecOk fr secs.length ⟨ent, fz, vers, texts⟩ from by
          obtain ⟨e1, e2, e3⟩ := HSO.out
          rw [HI.out]
          refine ⟨⟨by show 2 * (i : Int) ≤ ent; omega, by show ent ≤ 2 * (i : Int) + 1; have := HK4.out; omega⟩, e2.symm, ⟨k, hk2, fun h0 => ?_, by rw [e3]; exact HVE.out, HTL.out⟩, HTO.out⟩
          have := HKF.out h0
          rw [← e2] at this
          simpa using this)
        obtain ⟨A5, c5, w5, hrun, hb5, hS5⟩ := HIN.out.fin (by have := HI.out; omega) HSC.out
        rw [HI.out] at hrun hS5
        have HREL := Lib.hid (show BgR w ms ht fr n (.int .i64 ((i : Int) + 1)) (w5.setCell ⟨w.heap.size + 1, 2, none⟩ (.slice A5 (i + 1) c5)) from
          ⟨secs ++ [⟨ent, fz, vers, texts⟩], A5, c5, by rw [List.length_append, HI.out]; exact hlt, by rw [List.length_append, HI.out]; rfl, by rw [List.length_append, HI.out]; exact hS5⟩)
        have b2 := cell_of HIN.out.low.b (i := 2) (u := .slice As i cs) rfl
        have hbl : w.heap.size + 1 < wi.heap.size := lt_of_block HIN.out.low.b
        have hbn : ¬ w.heap.size + 1 = wi.heap.size := by omega
        have b5 := cell_of hb5 (i := 2) (u := .slice As i cs) rfl
        have g5 := frozen_of hb5 2
        have hzn : ¬ zs = wi.heap.size := by omega
        clear hS5 hb5 hk2
        by_cases hk9 : k < k8
        · have hf9 : fz = false := by
            cases fz
            · rfl
            · exact absurd ⟨hk9, rfl⟩ hkk
          subst hf9
          have gk : decide ((k : Int) < (k8 : Int)) = true := by rw [decide_eq_true_eq]; omega
          have gk2 : decide (k < k8) = true := by simpa using hk9
          clear hkk
          go_wp2_with (first
            | (go_at_call 77; refine (H8.out _ HIN.out.low.x).mono ?_; rintro e w1 ⟨rfl, rfl⟩)
            | (at_builtin; refine wpList_append_run (s := .tmp 86) (x := .tmp 88) hrun rfl rfl rfl rfl rfl ?_))
          go_roundw
          case rel => exact HREL.out
          case measure => simp only [toM]; omega
        · have gk : decide ((k : Int) < (k8 : Int)) = false := by rw [decide_eq_false_iff_not]; omega
          have gk2 : decide (k < k8) = false := by simpa using hk9
          clear hkk
          go_wp2_with (first
            | (go_at_call 77; refine (H8.out _ HIN.out.low.x).mono ?_; rintro e w1 ⟨rfl, rfl⟩)
            | (at_builtin; refine wpList_append_run (s := .tmp 86) (x := .tmp 88) hrun rfl rfl rfl rfl rfl ?_))
          go_roundw
          case rel => exact HREL.out
          case measure => simp only [toM]; omega
      obtain ⟨hk8', hfz⟩ := hkk
      subst hfz
      have hkI : (k : Int) < (k8 : Int) := by omega
      have gk : decide ((k : Int) < (k8 : Int)) = true := by simpa using hk8'
      have gk2 : decide (k < k8) = true := by simpa using hk8'
      go_upto_region 12 with (first | (go_at_call 77; refine (H8.out _ HIN.out.low.x).mono ?_; rintro e w1 ⟨rfl, rfl⟩))
      have HVL := Lib.hid (show vers.length = k + 1 by rw [HVE.out]; simp)
      obtain ⟨A5, c5, w5, hrun, hz5, hin5⟩ := HIN.out.appV (30 + 7 * (i : Int) - 3 * (k : Int)) (by have := HVL.out; omega)
      rw [HVL.out] at hrun hin5
      have z2 := cell_of hz5 (i := 2) (u := .slice Av (k + 1) cv) rfl
      have y2 := frozen_of hz5 2
      have hzn : ¬ zs = wi.heap.size := by omega
      have HIN5 := Lib.hid hin5
      clear hin5 hz5
      go_upto_region 13 with (first | (at_builtin; refine wpList_append_run (s := .tmp 62) (x := .tmp 69) hrun rfl rfl rfl rfl rfl ?_))
      obtain ⟨w6, hw6⟩ : ∃ w6, w5.setCell ⟨zs, 2, none⟩ (.slice A5 (k + 1 + 1) c5) = w6 := ⟨_, rfl⟩
      rw [hw6] at HIN5 ⊢
      clear hrun hw6 z2 y2 hzn s0 s1 s2 s3 f2 f3 hzl H8 HIN
      have hzl := HIN5.out.lt
      have hzn : ¬ zs = w6.heap.size := by omega
      have s3 := cell_of HIN5.out.s (i := 3) (u := .slice Bt (k + 1) dt) rfl
      have HT13 := Lib.hid (fun W (hW : Ext w6 W) => (show Calls Tryz.prog 87 #[.slice A m c, .int .i64 (15 + 6 * (i : Int) + 7 * (k : Int))] W (fun e w2 => ∃ t A1 n1 c1 A2 n2 c2, e = .returned (.agg #[.slice A1 n1 c1, .slice A2 n2 c2]) ∧ OkT t ∧ GT w6.heap.size t (.agg #[.slice A1 n1 c1, .slice A2 n2 c2]) w2 ∧ Ext w6 w2) from by
        have h9 := HTX.out W (HIN5.out.low.x.trans hW) (15 + 6 * i + 7 * k) (by omega)
        rw [show ((15 + 6 * i + 7 * k : Nat) : Int) = 15 + 6 * (i : Int) + 7 * (k : Int) by omega] at h9
        refine h9.mono ?_
        rintro e w2 ⟨t, v, rfl, hok, hgt, hx⟩
        have hg2 := hgt.low hW.lt
        obtain ⟨A1, n1, c1, A2, n2, c2, rfl, h1, h2, h3, h4⟩ := hgt
        exact ⟨t, A1, n1, c1, A2, n2, c2, rfl, hok, hg2, hW.trans hx⟩))
      have g6 : IntKind.i64.wrap (6 * (i : Int)) = 6 * (i : Int) := IntWalk.i64_in _ (by omega)
      have g15 : IntKind.i64.wrap (15 + 6 * (i : Int)) = 15 + 6 * (i : Int) := IntWalk.i64_in _ (by omega)
      have g7 : IntKind.i64.wrap (7 * (k : Int)) = 7 * (k : Int) := IntWalk.i64_in _ (by omega)
      have g80 : IntKind.i64.wrap (15 + 6 * (i : Int) + 7 * (k : Int)) = 15 + 6 * (i : Int) + 7 * (k : Int) := IntWalk.i64_in _ (by omega)
      go_region_law (first
        | (go_simp; go_at_call 87; refine (HT13.out _ ((Ext.refl _).drew)).mono ?_; rintro e w1 ⟨t9, B1, m1, d1, B2, m2, d2, rfl, hok9, hg9, hx9⟩; obtain ⟨A7, c7, w7, hrun, hz7, hin7⟩ := HIN5.out.appT hx9 hg9 (by have := HTL.out; omega); have c01 := cell_of ((hx9.block _ HIN5.out.lt).trans HIN5.out.s) (i := 3) (u := .slice Bt (k + 1) dt) rfl; have c02 := cell_of ((((Ext.refl w1).alloc (.cells #[.slice B1 m1 d1, .slice B2 m2 d2] 53)).block _ (lt_of_block ((hx9.block _ HIN5.out.lt).trans HIN5.out.s))).trans ((hx9.block _ HIN5.out.lt).trans HIN5.out.s)) (i := 3) (u := .slice Bt (k + 1) dt) rfl; have z3 := cell_of hz7 (i := 3) (u := .slice Bt (k + 1) dt) rfl; have y3 := frozen_of hz7 3; rw [HTL.out] at hrun hin7; have HIN7 := Lib.hid hin7; have HRUN := Lib.hid hrun; have HOK9 := Lib.hid hok9; clear hok9 hg9 hx9 hrun hin7 hz7; simp only [])
        | (refine gstep_append_run (s := .tmp 73) (x := .tmp 82) HRUN.out rfl rfl rfl rfl rfl ?_))
      all_goals
        go_wp2
        refine ⟨⟨k + 1, A5, A7, c5, c7, vers ++ [30 + 7 * (i : Int) - 3 * (k : Int)], texts ++ [t9], by omega, rfl, fun _ => rfl, ?_, ?_, fun t ht => ?_, HIN7.out⟩, by simp only [toM]; omega⟩
        · rw [HVE.out, List.range_succ, List.map_append]; rfl
        · rw [List.length_append, HTL.out]; rfl
        · rcases List.mem_append.1 ht with ht | ht
          · exact HTO.out t ht
          · simp only [List.mem_singleton] at ht; subst ht; exact HOK9.out
end
section
open Go Go.RowKit

end
section
open Go Go.RowKit

theorem OkB.big {b : Bk} {N V N' V' : Nat} (h : OkB b N V) (hN : N ≤ N') (hV : V ≤ V') : OkB b N' V' :=
  ⟨h.m0, h.m1, h.h0, h.h1, Nat.le_trans h.n hN, fun x hx => ⟨(h.vs x hx).1, (h.vs x hx).2.1, Nat.le_trans (h.vs x hx).2.2 hV⟩, h.tx, h.ent⟩
end
end Go.Proofs.YtdbnddmncbjobaaGreatDoor