/- rollbookref28.Book: walked. -/
import Derived.Test.YtdbnddmncbjobaaGreatDoorMf
import Derived.Test.YtdbnddmncbjobaaGreatDoorMh
import Derived.Deep.RegionLaw
import Derived.Deep.RegionHeld3
import Derived.StillTailTactics
import Derived.Test.YtdbnddmncbjobaaGreatDoorMa
import Derived.Test.YtdbnddmncbjobaaGreatDoorMg
import Derived.Deep.DeepCutAuto
namespace Go.Proofs.YtdbnddmncbjobaaGreatDoor
open Go Go.RowKit

/-- The section k of a generated book of which fr sections are frozen. -/
structure SecOk (fr k : Nat) (x : Se) : Prop where
  ent : 2 * (k : Int) ≤ x.ent ∧ x.ent ≤ 2 * (k : Int) + 1
  fz : x.fz = decide (k < fr)
  vs : ∃ m : Nat, m ≤ 2 ∧ (m ≠ 0 → k < fr) ∧ x.vers = (10 - (k : Int)) :: (List.range m).map (fun (j : Nat) => 30 + 7 * (k : Int) - 3 * (j : Int)) ∧ x.texts.length = m + 1
  tx : ∀ t ∈ x.texts, OkT t
structure OkG (b : Bk) : Prop where
  m0 : 500 ≤ b.ms
  m1 : b.ms ≤ 2000
  h0 : 4 ≤ b.ht
  h1 : b.ht ≤ 100
  n : b.secs.length ≤ 4
  s : ∃ fr : Nat, ∀ (k : Nat) (x : Se), b.secs[k]? = some x → SecOk fr k x
theorem OkG.okB {b : Bk} (h : OkG b) : OkB b 4 3 := by
  obtain ⟨fr, hs⟩ := h.s
  have hm : ∀ x ∈ b.secs, ∃ k, SecOk fr k x := fun x hx => by
    obtain ⟨k, hk⟩ := List.getElem?_of_mem hx
    exact ⟨k, hs k x hk⟩
  refine ⟨h.m0, h.m1, h.h0, h.h1, h.n, fun x hx => ?_, fun x hx => ?_, ?_⟩
  · obtain ⟨k, hk⟩ := hm x hx
    obtain ⟨m, h1, _, h2, h3⟩ := hk.vs
    exact ⟨by rw [h2, h3]; simp, by rw [h2]; simp, by omega⟩
  · obtain ⟨k, hk⟩ := hm x hx; exact hk.tx
  · rw [List.nodup_iff_pairwise_ne, List.pairwise_iff_getElem]
    intro i j hi hj hij
    rw [List.length_map] at hi hj
    have h1 := (hs i _ (List.getElem?_eq_getElem hi)).ent
    have h2 := (hs j _ (List.getElem?_eq_getElem hj)).ent
    intro e9
    rw [List.getElem_map, List.getElem_map] at e9
    omega
theorem own_new {β : Type} {k : Lay β} {X : World} {base : Nat} {P : Nat → Prop} {x : β} {cs : Array Value} {e : TypeId} (hb : base ≤ X.heap.size) (hr : k.rep X (fun j => P j ∧ j ≠ X.heap.size) x cs.toList) :
    k.own e (X.alloc (.cells cs e)) base P (.slice (some ⟨X.heap.size, 0, none⟩) 1 1) [x] := by
  obtain ⟨d0, hd0⟩ : ∃ d0 : Cs k.sz, ccf d0 = cs.toList := ⟨⟨cs.toList, k.len hr, k.one hr⟩, rfl⟩
  have hsz : cs.size = k.sz := by have := k.len hr; simpa using this
  refine ⟨[d0], ?_, rfl, fun i d y hd hy => ?_⟩
  · unfold OL
    have hg : gcells ccf [d0] = cs.toList := by simp [gcells, hd0]
    rw [hg]
    refine ⟨by simp [hsz], .inr ⟨X.heap.size, 1, cs, rfl, hb, heap_alloc_new X _, by simp, by simp [maxLen], by simp [hsz], ?_⟩⟩
    rw [List.length_singleton, Nat.one_mul, ← hsz]
    exact List.take_of_length_le (by simp)
  · cases i with
    | zero =>
      injection hd with hd
      injection hy with hy
      subst hd hy
      have h9 : k.rep X (fun j => P j ∧ j ≠ X.heap.size) x (ccf d0) := by rw [hd0]; exact hr
      exact k.ext (k.mono h9 fun j hj _ => ⟨hj.1, fun e => hj.2 (by have : some X.heap.size = some j := e; injection this with this; exact this.symm)⟩) ((Ext.refl X).alloc _)
    | succ i => cases hd
/-- Between two rounds of the outer loop: so many sections. -/
structure BgS (w : World) (ms ht : Int) (fr : Nat) (secs : List Se) (vS : Value) (W : World) : Prop where
  x : Ext w W
  r : W.heap[w.heap.size]? = some (.cells #[.int .i64 0, .int .i64 0, .slice none 0 0] 27 (0, 0))
  b : W.heap[w.heap.size + 1]? = some (.cells #[.int .i64 ms, .int .i64 ht, vS] 27 (0, 0))
  own : kSe.own 46 W (w.heap.size + 2) (fun j => w.heap.size + 2 ≤ j) vS secs
  ok : ∀ (k : Nat) (x : Se), secs[k]? = some x → SecOk fr k x
theorem BgS.size {w : World} {ms ht : Int} {fr : Nat} {secs : List Se} {vS : Value} {W : World} (h : BgS w ms ht fr secs vS W) : w.heap.size + 2 ≤ W.heap.size := lt_of_block h.b
theorem BgS.ext {w : World} {ms ht : Int} {fr : Nat} {secs : List Se} {vS : Value} {W W' : World} (h : BgS w ms ht fr secs vS W) (hx : Ext W W') : BgS w ms ht fr secs vS W' :=
  ⟨h.x.trans hx, (hx.block _ (lt_of_block h.r)).trans h.r, (hx.block _ (lt_of_block h.b)).trans h.b, Lay.own_ext h.own hx, h.ok⟩
def BgR (w : World) (ms ht : Int) (fr n : Nat) (s6 : Value) (W : World) : Prop := ∃ (secs : List Se) (A : Option Addr) (c : Nat), secs.length ≤ n ∧ s6 = .int .i64 secs.length ∧ BgS w ms ht fr secs (.slice A secs.length c) W
/-- What lies below the section that is being made. -/
structure Low (w : World) (ms ht : Int) (fr : Nat) (secs : List Se) (vS : Value) (Bs : Nat) (W : World) : Prop where
  x : Ext w W
  r : W.heap[w.heap.size]? = some (.cells #[.int .i64 0, .int .i64 0, .slice none 0 0] 27 (0, 0))
  b : W.heap[w.heap.size + 1]? = some (.cells #[.int .i64 ms, .int .i64 ht, vS] 27 (0, 0))
  own : kSe.own 46 W (w.heap.size + 2) (fun j => w.heap.size + 2 ≤ j ∧ j < Bs) vS secs
  ok : ∀ (k : Nat) (x : Se), secs[k]? = some x → SecOk fr k x
  hb : w.heap.size + 2 ≤ Bs
  hS : ∀ j, vS.ownBlock = some j → j < Bs
theorem Low.keep {w : World} {ms ht : Int} {fr : Nat} {secs : List Se} {vS : Value} {Bs : Nat} {W W' : World} (h : Low w ms ht fr secs vS Bs W) (hk : Below Bs W W') : Low w ms ht fr secs vS Bs W' :=
  ⟨Below.trans h.x (hk.mono (by have := h.hb; omega)), (hk.block _ (by have := h.hb; omega)).trans h.r, (hk.block _ (by have := h.hb; omega)).trans h.b, Lay.own_keep h.own hk.size (fun j hj _ => by
    rcases hj with hj | hj
    · exact hk.block j hj.2
    · exact hk.block j (h.hS j hj)), h.ok, h.hb, h.hS⟩
theorem BgS.low {w : World} {ms ht : Int} {fr : Nat} {secs : List Se} {vS : Value} {W : World} (h : BgS w ms ht fr secs vS W) : Low w ms ht fr secs vS W.heap.size W :=
  ⟨h.x, h.r, h.b, Lay.own_mono h.own fun _ hj hl => ⟨hj, hl⟩, h.ok, h.size, fun j hj => (Lay.own_lt h.own j hj).2⟩
/-- A section is being made: its block zs, its versions, its texts. -/
structure InS (w : World) (ms ht : Int) (fr : Nat) (secs : List Se) (vS : Value) (Bs zs : Nat) (ent : Int) (fz : Bool) (vV vT : Value) (vers : List Int) (texts : List Tx) (W : World) : Prop where
  low : Low w ms ht fr secs vS Bs W
  s : W.heap[zs]? = some (.cells #[.int .i64 ent, .bool fz, vV, vT] 46 (0, 0))
  ov : kInt.own 3 W Bs (fun _ => False) vV vers
  ot : kTx.own 53 W Bs (fun j => Bs ≤ j ∧ j ≠ zs ∧ vV.ownBlock ≠ some j) vT texts
  d1 : vV.ownBlock ≠ some zs
  d2 : vT.ownBlock ≠ some zs
  d3 : ∀ j, vV.ownBlock = some j → vT.ownBlock ≠ some j
  hz : Bs ≤ zs
theorem InS.lt {w : World} {ms ht : Int} {fr : Nat} {secs : List Se} {vS : Value} {Bs zs : Nat} {ent : Int} {fz : Bool} {vV vT : Value} {vers : List Int} {texts : List Tx} {W : World} (h : InS w ms ht fr secs vS Bs zs ent fz vV vT vers texts W) : zs < W.heap.size := lt_of_block h.s
theorem InS.ext {w : World} {ms ht : Int} {fr : Nat} {secs : List Se} {vS : Value} {Bs zs : Nat} {ent : Int} {fz : Bool} {vV vT : Value} {vers : List Int} {texts : List Tx} {W W' : World} (h : InS w ms ht fr secs vS Bs zs ent fz vV vT vers texts W) (hx : Ext W W') : InS w ms ht fr secs vS Bs zs ent fz vV vT vers texts W' :=
  ⟨h.low.keep (Below.mono hx (by have := h.lt; have := h.hz; omega)), (hx.block _ h.lt).trans h.s, Lay.own_ext h.ov hx, Lay.own_ext h.ot hx, h.d1, h.d2, h.d3, h.hz⟩
theorem InS.appV {w : World} {ms ht : Int} {fr : Nat} {secs : List Se} {vS : Value} {Bs zs : Nat} {ent : Int} {fz : Bool} {vV vT : Value} {vers : List Int} {texts : List Tx} {W : World} (h : InS w ms ht fr secs vS Bs zs ent fz vV vT vers texts W) (x : Int) (hm : vers.length ≤ 1000) :
    ∃ A' c' w', (Builtin.append_ #[22, 22] 22 #[vV, .slice (some ⟨W.heap.size, 0, none⟩) 1 1]).run Tryz.prog (W.alloc (.cells #[.int .i64 x] 3)) = .ok (.slice A' (vers.length + 1) c') w' ∧
      w'.heap[zs]? = some (.cells #[.int .i64 ent, .bool fz, vV, vT] 46 (0, 0)) ∧ InS w ms ht fr secs vS Bs zs ent fz (.slice A' (vers.length + 1) c') vT (vers ++ [x]) texts (w'.setCell ⟨zs, 2, none⟩ (.slice A' (vers.length + 1) c')) := by
  have hlz := h.lt
  have hzb := h.hz
  obtain ⟨A', c', w', r1, r2, r3, r4, r5, r6⟩ := own_app1 (k := kInt) (Pr := Tryz.prog) (t := 22) Tryz.underlying22 info3 rfl (by decide) (by omega) h.ov (by omega) (cs := #[.int .i64 x]) (T := 3) (x := x) rfl 1 (by omega)
  have hzs : w'.heap[zs]? = some (.cells #[.int .i64 ent, .bool fz, vV, vT] 46 (0, 0)) := (r4 zs hlz h.d1).trans h.s
  have g1 : (Value.slice A' (vers.length + 1) c').ownBlock ≠ some zs := fun e => by
    rcases r6 zs e with e | e
    · exact h.d1 e
    · omega
  refine ⟨A', c', w', r1, hzs, ⟨(h.low.keep (r3 Bs (Nat.le_refl _))).keep (Below.setCell (Below.refl _ _) hzb _), ?_, Lay.own_keep r2 (by simp) ?_, ?_, g1, h.d2, ?_, hzb⟩⟩
  · exact heap_setCell_same w' zs 2 _ 46 _ hzs
  · intro j hj _
    rcases hj with hj | hj
    · exact hj.elim
    · exact heap_setCell_other w' ⟨zs, 2, none⟩ j _ (fun e => g1 (hj.trans (congrArg some e)))
  · have h1 := Lay.own_mono (P' := fun j => (Bs ≤ j ∧ j ≠ zs ∧ vV.ownBlock ≠ some j) ∧ (Value.slice A' (vers.length + 1) c').ownBlock ≠ some j) h.ot fun j hj hl => ⟨hj, fun e => by
      rcases r6 j e with e | e
      · exact hj.2.2 e
      · omega⟩
    have h2 := Lay.own_keep h1 r5 fun j hj hl => r4 j hl (by
      rcases hj with hj | hj
      · exact hj.1.2.2
      · exact fun e => h.d3 j e hj)
    have h3 := Lay.own_keep (W' := w'.setCell ⟨zs, 2, none⟩ (.slice A' (vers.length + 1) c')) h2 (by simp) fun j hj _ => heap_setCell_other w' ⟨zs, 2, none⟩ j _ (by
      rcases hj with hj | hj
      · exact hj.1.2.1
      · exact fun e => h.d2 (hj.trans (congrArg some e)))
    exact Lay.own_mono h3 fun j hj _ => ⟨hj.1.1, hj.1.2.1, hj.2⟩
  · intro j hj e
    rcases r6 j hj with h9 | h9
    · exact h.d3 j h9 e
    · have := (Lay.own_lt h.ot j e).2; omega
theorem InS.appT {w : World} {ms ht : Int} {fr : Nat} {secs : List Se} {vS : Value} {Bs zs : Nat} {ent : Int} {fz : Bool} {vV vT : Value} {vers : List Int} {texts : List Tx} {W W1 : World} (h : InS w ms ht fr secs vS Bs zs ent fz vV vT vers texts W) (hx : Ext W W1) {t : Tx} {A1 A2 : Option Addr} {n1 c1 n2 c2 : Nat} (hg : GT W.heap.size t (.agg #[.slice A1 n1 c1, .slice A2 n2 c2]) W1) (hm : texts.length ≤ 1000) :
    ∃ A' c' w', (Builtin.append_ #[44, 44] 44 #[vT, .slice (some ⟨W1.heap.size, 0, none⟩) 1 1]).run Tryz.prog (W1.alloc (.cells #[.slice A1 n1 c1, .slice A2 n2 c2] 53)) = .ok (.slice A' (texts.length + 1) c') w' ∧
      w'.heap[zs]? = some (.cells #[.int .i64 ent, .bool fz, vV, vT] 46 (0, 0)) ∧ InS w ms ht fr secs vS Bs zs ent fz vV (.slice A' (texts.length + 1) c') vers (texts ++ [t]) (w'.setCell ⟨zs, 3, none⟩ (.slice A' (texts.length + 1) c')) := by
  have hlz := h.lt
  have hzb := h.hz
  have h' := h.ext hx
  have hvl := Lay.own_lt h.ov
  have htl := Lay.own_lt h.ot
  obtain ⟨B1, m1, d1, B2, m2, d2, e9, k1, k2, k3, k4⟩ := hg
  have e10 := (Value.agg.inj e9)
  simp only [Array.mk.injEq, List.cons.injEq, Value.slice.injEq, and_true] at e10
  obtain ⟨⟨rfl, rfl, rfl⟩, rfl, rfl, rfl⟩ := e10
  have hP : ∀ j, W.heap.size ≤ j → j < W1.heap.size → (Bs ≤ j ∧ j ≠ zs ∧ vV.ownBlock ≠ some j) ∧ vT.ownBlock ≠ some j := fun j hj _ => ⟨⟨by omega, by omega, fun e => by have := (hvl j e).2; omega⟩, fun e => by have := (htl j e).2; omega⟩
  obtain ⟨A', c', w', r1, r2, r3, r4, r5, r6⟩ := own_app1 (k := kTx) (Pr := Tryz.prog) (t := 44) Tryz.underlying44 info53 rfl (by decide) (by omega) h'.ot (by have := hx.lt; omega) (cs := #[.slice A1 n1 c1, .slice A2 n2 c2]) (T := 53) (x := t)
    (kTx_rep.2 ⟨_, _, _, _, _, _, rfl, k1, k2, Lay.row_mono k3 hP, Lay.row_mono k4 hP⟩) 1 (by omega)
  have hzs : w'.heap[zs]? = some (.cells #[.int .i64 ent, .bool fz, vV, vT] 46 (0, 0)) := (r4 zs h'.lt h.d2).trans h'.s
  have g1 : (Value.slice A' (texts.length + 1) c').ownBlock ≠ some zs := fun e => by
    rcases r6 zs e with e | e
    · exact h.d2 e
    · have := h'.lt; omega
  refine ⟨A', c', w', r1, hzs, ⟨(h'.low.keep (r3 Bs (Nat.le_refl _))).keep (Below.setCell (Below.refl _ _) hzb _), ?_, ?_, Lay.own_keep r2 (by simp) ?_, h.d1, g1, ?_, hzb⟩⟩
  · exact heap_setCell_same w' zs 3 _ 46 _ hzs
  · have h2 := Lay.own_keep h'.ov r5 fun j hj hl => r4 j hl (by
      rcases hj with hj | hj
      · exact hj.elim
      · exact h.d3 j hj)
    refine Lay.own_keep h2 (by simp) fun j hj _ => heap_setCell_other w' ⟨zs, 3, none⟩ j _ ?_
    rcases hj with hj | hj
    · exact hj.elim
    · exact fun e => h.d1 (hj.trans (congrArg some e))
  · intro j hj _
    refine heap_setCell_other w' ⟨zs, 3, none⟩ j _ ?_
    rcases hj with hj | hj
    · exact hj.2.1
    · exact fun e => g1 (hj.trans (congrArg some e))
  · intro j hj e
    rcases r6 j e with h9 | h9
    · exact h.d3 j hj h9
    · have := (hvl j hj).2; have := hx.lt; omega
theorem InS.firstT {w : World} {ms ht : Int} {fr : Nat} {secs : List Se} {vS : Value} {Bs zs : Nat} {ent : Int} {fz : Bool} {vV : Value} {vers : List Int} {W W1 : World} (h : InS w ms ht fr secs vS Bs zs ent fz vV (.slice none 0 0) vers [] W) (hx : Ext W W1) {t : Tx} {A1 A2 : Option Addr} {n1 c1 n2 c2 : Nat} (hg : GT W.heap.size t (.agg #[.slice A1 n1 c1, .slice A2 n2 c2]) W1) :
    InS w ms ht fr secs vS Bs zs ent fz vV (.slice (some ⟨W1.heap.size, 0, none⟩) 1 1) vers [t] ((W1.setCell ⟨zs, 3, none⟩ (.slice (some ⟨W1.heap.size, 0, none⟩) 1 1)).alloc (.cells #[.slice A1 n1 c1, .slice A2 n2 c2] 53)) := by
  have hlz := h.lt
  have hzb := h.hz
  have h' := h.ext hx
  have hxl := hx.lt
  have hvl := Lay.own_lt h.ov
  obtain ⟨B1, m1, d1, B2, m2, d2, e9, k1, k2, k3, k4⟩ := hg
  have e10 := (Value.agg.inj e9)
  simp only [Array.mk.injEq, List.cons.injEq, Value.slice.injEq, and_true] at e10
  obtain ⟨⟨rfl, rfl, rfl⟩, rfl, rfl, rfl⟩ := e10
  obtain ⟨Y, hY⟩ : ∃ Y, W1.setCell ⟨zs, 3, none⟩ (.slice (some ⟨W1.heap.size, 0, none⟩) 1 1) = Y := ⟨_, rfl⟩
  have hYs : Y.heap.size = W1.heap.size := by rw [← hY]; simp
  have hYk : ∀ j, j ≠ zs → Y.heap[j]? = W1.heap[j]? := fun j hj => by rw [← hY]; exact heap_setCell_other W1 ⟨zs, 3, none⟩ j _ hj
  have hYz : Y.heap[zs]? = some (.cells #[.int .i64 ent, .bool fz, vV, .slice (some ⟨W1.heap.size, 0, none⟩) 1 1] 46 (0, 0)) := by rw [← hY]; exact heap_setCell_same W1 zs 3 _ 46 _ h'.s
  have hYb : Below Bs W1 Y := by rw [← hY]; exact Below.setCell (Below.refl _ _) hzb _
  rw [hY]
  have hxa : Ext Y (Y.alloc (.cells #[.slice A1 n1 c1, .slice A2 n2 c2] 53)) := (Ext.refl Y).alloc _
  have hot : kTx.own 53 (Y.alloc (.cells #[.slice A1 n1 c1, .slice A2 n2 c2] 53)) Bs (fun j => Bs ≤ j ∧ j ≠ zs ∧ vV.ownBlock ≠ some j) (.slice (some ⟨Y.heap.size, 0, none⟩) 1 1) [t] := by
    refine own_new (by omega) (kTx_rep.2 ⟨_, _, _, _, _, _, rfl, k1, k2, ?_, ?_⟩)
    · exact Lay.row_mono (Lay.row_keep (Lay.row_mono (Q := fun j => W.heap.size ≤ j ∧ j < W1.heap.size) k3 fun j hj hl => ⟨hj, hl⟩) (by omega) fun j hj _ => hYk j (by omega)) fun j hj _ => ⟨⟨by omega, by omega, fun e => by have := (hvl j e).2; omega⟩, by omega⟩
    · exact Lay.row_mono (Lay.row_keep (Lay.row_mono (Q := fun j => W.heap.size ≤ j ∧ j < W1.heap.size) k4 fun j hj hl => ⟨hj, hl⟩) (by omega) fun j hj _ => hYk j (by omega)) fun j hj _ => ⟨⟨by omega, by omega, fun e => by have := (hvl j e).2; omega⟩, by omega⟩
  rw [hYs] at hot
  refine ⟨(h'.low.keep hYb).keep (Below.mono hxa (by omega)), (hxa.block _ (by omega)).trans hYz, Lay.own_ext (Lay.own_keep h'.ov (by omega) fun j hj hl => ?_) hxa, hot, h.d1, ?_, ?_, hzb⟩
  · rcases hj with hj | hj
    · exact hj.elim
    · exact hYk j fun e => h.d1 (hj.trans (congrArg some e))
  · intro e; have : some W1.heap.size = some zs := e; injection this; omega
  · intro j hj e
    have : some W1.heap.size = some j := e
    injection this with this
    have := (hvl j hj).2
    omega
/-- Between two rounds of the inner loop. -/
def InR (w : World) (ms ht : Int) (fr : Nat) (secs : List Se) (vS : Value) (Bs zs : Nat) (ent : Int) (fz : Bool) (v0 : Int) (i : Nat) (s8 : Value) (W : World) : Prop :=
  ∃ (k : Nat) (A B : Option Addr) (c d : Nat) (vers : List Int) (texts : List Tx), k ≤ 2 ∧ s8 = .int .i64 k ∧ (k ≠ 0 → fz = true) ∧ vers = v0 :: (List.range k).map (fun (j : Nat) => 30 + 7 * (i : Int) - 3 * (j : Int)) ∧ texts.length = k + 1 ∧ (∀ t ∈ texts, OkT t) ∧
    InS w ms ht fr secs vS Bs zs ent fz (.slice A (k + 1) c) (.slice B (k + 1) d) vers texts W
theorem InS.fin {w : World} {ms ht : Int} {fr : Nat} {secs : List Se} {vS : Value} {Bs zs : Nat} {ent : Int} {fz : Bool} {vV vT : Value} {vers : List Int} {texts : List Tx} {W : World} (h : InS w ms ht fr secs vS Bs zs ent fz vV vT vers texts W) (hm : secs.length ≤ 1000) (hok : SecOk fr secs.length ⟨ent, fz, vers, texts⟩) :
    ∃ A' c' w', (Builtin.append_ #[25, 25] 25 #[vS, .slice (some ⟨W.heap.size, 0, none⟩) 1 1]).run Tryz.prog (W.alloc (.cells #[.int .i64 ent, .bool fz, vV, vT] 46)) = .ok (.slice A' (secs.length + 1) c') w' ∧
      w'.heap[w.heap.size + 1]? = some (.cells #[.int .i64 ms, .int .i64 ht, vS] 27 (0, 0)) ∧ BgS w ms ht fr (secs ++ [⟨ent, fz, vers, texts⟩]) (.slice A' (secs.length + 1) c') (w'.setCell ⟨w.heap.size + 1, 2, none⟩ (.slice A' (secs.length + 1) c')) := by
  have hlz := h.lt
  have hzb := h.hz
  have hwb := h.low.hb
  obtain ⟨A1, c1, e1, k1, v1⟩ := own_rowN (Q := fun j => w.heap.size + 2 ≤ j ∧ vS.ownBlock ≠ some j) h.ov (fun j hj => hj.elim) (fun j hj _ => ⟨by omega, fun e => by have := h.low.hS j e; omega⟩)
  obtain ⟨A2, c2, e2, k2, v2⟩ := own_rowN (Q := fun j => w.heap.size + 2 ≤ j ∧ vS.ownBlock ≠ some j) h.ot (fun j hj _ => ⟨by omega, fun e => by have := h.low.hS j e; omega⟩) (fun j hj _ => ⟨by omega, fun e => by have := h.low.hS j e; omega⟩)
  have hoS := Lay.own_mono (P' := fun j => w.heap.size + 2 ≤ j) h.low.own fun j hj _ => hj.1
  have hSl := Lay.own_lt h.low.own
  obtain ⟨A', c', w', r1, r2, r3, r4, r5, r6⟩ := own_app1 (k := kSe) (Pr := Tryz.prog) (t := 25) Tryz.underlying25 info46 rfl (by decide) (by omega) hoS (by omega) (cs := #[.int .i64 ent, .bool fz, vV, vT]) (T := 46) (x := ⟨ent, fz, vers, texts⟩)
    (by rw [e1, e2]; exact kSe_rep.2 ⟨_, _, _, _, _, _, rfl, k1, k2, v1, v2⟩) 1 (by omega)
  have hb1 : w'.heap[w.heap.size + 1]? = some (.cells #[.int .i64 ms, .int .i64 ht, vS] 27 (0, 0)) := (r4 _ (by omega) (fun e => by have := (hSl _ e).1; omega)).trans h.low.b
  have hr1 : w'.heap[w.heap.size]? = _ := (r4 _ (by omega) (fun e => by have := (hSl _ e).1; omega)).trans h.low.r
  refine ⟨A', c', w', r1, hb1, ⟨?_, ?_, heap_setCell_same w' (w.heap.size + 1) 2 _ 27 _ hb1, Lay.own_keep r2 (by simp) ?_, ?_⟩⟩
  · exact Ext.setCell (p := ⟨w.heap.size + 1, 2, none⟩) (Below.trans h.low.x (r3 w.heap.size (by omega))) (by show w.heap.size ≤ w.heap.size + 1; omega) _
  · rw [heap_setCell_other w' ⟨w.heap.size + 1, 2, none⟩ w.heap.size _ (by show w.heap.size ≠ w.heap.size + 1; omega)]; exact hr1
  · intro j hj _
    refine heap_setCell_other w' ⟨w.heap.size + 1, 2, none⟩ j _ ?_
    show j ≠ w.heap.size + 1
    rcases hj with hj | hj
    · omega
    · have := (Lay.own_lt r2 j hj).1; omega
  · intro k x hk
    rw [List.getElem?_append] at hk
    split at hk
    · exact h.low.ok k x hk
    · next hlt =>
      have hk0 : k - secs.length = 0 := by
        have := (List.getElem?_eq_some_iff.1 hk).1
        simp at this; omega
      rw [hk0] at hk
      injection hk with hk
      subst hk
      rw [show k = secs.length by omega]
      exact hok
def BookGet (w : World) (e : Ending) (w' : World) : Prop := ∃ (b : Bk) (A : Option Addr) (n c : Nat), e = .returned (.agg #[.int .i64 b.ms, .int .i64 b.ht, .slice A n c]) ∧ OkG b ∧ n ≤ c ∧ kSe.row w' (fun j => w.heap.size ≤ j) A n b.secs ∧ Ext w w'
end Go.Proofs.YtdbnddmncbjobaaGreatDoor

/- rollbookref28.Book: walked. -/
namespace Go.Proofs.YtdbnddmncbjobaaGreatDoor
open Go Go.RowKit

set_option maxHeartbeats 8000000 in
set_option maxRecDepth 100000 in
theorem gbook_any (A : Option Addr) (c : Nat) (l : List Int) (w : World) (h : IL w A c l) (hl : l.length ≤ 9223372036854775807) :
    Calls Tryz.prog 39 #[.slice A l.length c] w (BookGet w) := by
  have HTX := Lib.hid (fun W (hW : Ext w W) (k : Nat) (hk : k ≤ 1000000) => gtextat_any A c l k W (h.ext hW) hl hk)
  obtain ⟨m, hm⟩ : ∃ m, m = l.length := ⟨_, rfl⟩
  have HP := Lib.hid (fun W (hW : Ext w W) (i k : Nat) (ii mm : Int) h1 h2 h3 h4 => (show Calls Tryz.prog 77 #[.slice A m c, .int .i64 ii, .int .i64 mm] W (fun e w' => e = .returned (.int .i64 (pkI l i k)) ∧ W = w') from by rw [hm]; exact pick_fix A c l i k W ii mm h1 h2 h3 h4 h.ok (h.sl.ext hW)))
  rw [← hm] at HTX ⊢
  clear hm h hl
  obtain ⟨k0, hk0, hk0b⟩ := pk_nat l 0 30 (by omega)
  obtain ⟨k1, hk1, hk1b⟩ := pk_nat l 1 5 (by omega)
  obtain ⟨n, hn, hnb⟩ := pk_nat l 2 5 (by omega)
  obtain ⟨fr, hfr, hfrb⟩ := pk_nat l 3 (n + 1) (by omega)
  have H0 := Lib.hid (fun W hW => (show Calls Tryz.prog 77 #[.slice A m c, .int .i64 0, .int .i64 30] W (fun e w' => e = .returned (.int .i64 (k0 : Int)) ∧ W = w') from by rw [← hk0]; exact HP.out W hW 0 30 0 30 rfl rfl (by omega) (by omega)))
  have H1 := Lib.hid (fun W hW => (show Calls Tryz.prog 77 #[.slice A m c, .int .i64 1, .int .i64 5] W (fun e w' => e = .returned (.int .i64 (k1 : Int)) ∧ W = w') from by rw [← hk1]; exact HP.out W hW 1 5 1 5 rfl rfl (by omega) (by omega)))
  have H2 := Lib.hid (fun W hW => (show Calls Tryz.prog 77 #[.slice A m c, .int .i64 2, .int .i64 5] W (fun e w' => e = .returned (.int .i64 (n : Int)) ∧ W = w') from by rw [← hn]; exact HP.out W hW 2 5 2 5 rfl rfl (by omega) (by omega)))
  have H3 := Lib.hid (fun W hW => (show Calls Tryz.prog 77 #[.slice A m c, .int .i64 3, .int .i64 ((n : Int) + 1)] W (fun e w' => e = .returned (.int .i64 (fr : Int)) ∧ W = w') from by rw [← hfr]; exact HP.out W hW 3 (n + 1) 3 _ rfl (by simp) (by omega) (by omega)))
  clear hk0 hk1 hn hfr
  go_enter Tryz.func39, Tryz.ntmps39
  have hx1 : Ext w (w.alloc (.cells #[.int .i64 0, .int .i64 0, .slice none 0 0] 27)) := (Ext.refl w).alloc _
  go_upto_region 2 with (first
    | (have hg := A1; clear hg; go_at_call 77; refine (H1.out _ hx1).mono ?_; rintro e w1 ⟨rfl, rfl⟩)
    | (go_at_call 77; refine (H0.out _ hx1).mono ?_; rintro e w1 ⟨rfl, rfl⟩; have A1 := Lib.hid True.intro))
  obtain ⟨wl, hwl⟩ : ∃ wl, ((w.alloc (.cells #[.int .i64 0, .int .i64 0, .slice none 0 0] 27)).alloc (.cells #[.int .i64 (500 + 20 * (k0 : Int)), .int .i64 (4 + (k1 : Int)), .slice none 0 0] 27)) = wl := ⟨_, rfl⟩
  obtain ⟨ms, hms⟩ : ∃ ms : Int, ms = 500 + 20 * (k0 : Int) := ⟨_, rfl⟩
  obtain ⟨ht, hht⟩ : ∃ ht : Int, ht = 4 + (k1 : Int) := ⟨_, rfl⟩
  have hS0 : BgS w ms ht fr [] (.slice none 0 0) wl := by
    refine ⟨by rw [← hwl]; exact hx1.alloc _, ?_, ?_, Lay.own_nil _ _ _ _ _, fun k x hk => by simp at hk⟩
    · rw [← hwl, heap_alloc_old _ _ _ (by simp)]; exact heap_alloc_at _ _ _ _ rfl
    · rw [← hwl, hms, hht]; exact heap_alloc_at _ _ _ _ (by simp)
  rw [hwl]
  have HM := Lib.hid (And.intro hms hht)
  have HS0 := Lib.hid hS0
  have HXL := Lib.hid hS0.x
  clear hwl hms hht hS0 hx1
  go_upto_region 3 with (first | (go_at_call 77; refine (H2.out _ HXL.out).mono ?_; rintro e w1 ⟨rfl, rfl⟩))
  go_upto_region 4 with (first | (go_at_call 77; refine (H3.out _ HXL.out).mono ?_; rintro e w1 ⟨rfl, rfl⟩))
  clear H0 H1 H2 H3 A1
  go_wp2_with fail
  go_loopw [6] (fun s6 W => BgR w ms ht fr n s6 W) (fun s6 _ => toM n s6)
  case atStart => exact ⟨[], none, 0, by simp, rfl, HS0.out⟩
  case round =>
    obtain ⟨secs, As, cs, hi, rfl, hS⟩ := hrel
    clear HS0 HXL
    obtain ⟨i, hie⟩ : ∃ i, secs.length = i := ⟨_, rfl⟩
    rw [hie] at hi hS ⊢
    have HI := Lib.hid hie
    have HS := Lib.hid hS
    clear hie hS
    by_cases hlt : i < n
    case neg =>
      obtain rfl : i = n := by omega
      have hni : ¬ ((i : Int) < (i : Int)) := by omega
      have k0 := cell_of HS.out.r (i := 0) (u := .int .i64 0) rfl
      have k1 := cell_of HS.out.r (i := 1) (u := .int .i64 0) rfl
      have k2 := cell_of HS.out.r (i := 2) (u := .slice none 0 0) rfl
      have f0 := frozen_of HS.out.r 0
      have f1 := frozen_of HS.out.r 1
      have f2 := frozen_of HS.out.r 2
      have b0 := cell_of HS.out.b (i := 0) (u := .int .i64 ms) rfl
      have b1 := cell_of HS.out.b (i := 1) (u := .int .i64 ht) rfl
      have b2 := cell_of HS.out.b (i := 2) (u := .slice As i cs) rfl
      go_wp2_with fail
      have hrow := own_rowN (Q := fun j => w.heap.size + 2 ≤ j) HS.out.own (fun j hj _ => hj) (fun j hj _ => hj)
      obtain ⟨A9, c9, e9, hc9, hr9⟩ := hrow
      rw [HI.out] at e9 hc9 hr9
      obtain ⟨rfl, _, rfl⟩ := Value.slice.inj e9
      refine bodyPost_ret (v := .agg #[.int .i64 ms, .int .i64 ht, .slice As i cs]) (by simp [results, Tryz.results39, go_sem, *]) rfl ?_
      obtain ⟨hm1, hm2⟩ := HM.out
      refine ⟨⟨ms, ht, secs⟩, As, i, cs, rfl, ⟨by show 500 ≤ ms; omega, by show ms ≤ 2000; omega, by show 4 ≤ ht; omega, by show ht ≤ 100; omega, by show secs.length ≤ 4; have := HI.out; omega, ⟨fr, HS.out.ok⟩⟩, hc9, ?_, ?_⟩
      · refine Lay.row_mono (Lay.row_keep hr9 (by simp) fun j hj _ => ?_) fun j hj _ => by omega
        rw [heap_setCell_other _ ⟨w.heap.size, 2, none⟩ j _ (by show j ≠ w.heap.size; omega), heap_setCell_other _ ⟨w.heap.size, 1, none⟩ j _ (by show j ≠ w.heap.size; omega), heap_setCell_other _ ⟨w.heap.size, 0, none⟩ j _ (by show j ≠ w.heap.size; omega)]
      · exact ((HS.out.x.setCell (p := ⟨w.heap.size, 0, none⟩) (Nat.le_refl _) _).setCell (p := ⟨w.heap.size, 1, none⟩) (Nat.le_refl _) _).setCell (p := ⟨w.heap.size, 2, none⟩) (Nat.le_refl _) _
    have hlI : (i : Int) < (n : Int) := by omega
    obtain ⟨k4, hk4, hk4b⟩ := pk_nat l (4 + i) 2 (by omega)
    have H4 := Lib.hid (fun W hW => (show Calls Tryz.prog 77 #[.slice A m c, .int .i64 (4 + (i : Int)), .int .i64 2] W (fun e w' => e = .returned (.int .i64 (k4 : Int)) ∧ W = w') from by rw [← hk4]; exact HP.out W hW (4 + i) 2 _ _ (by omega) rfl (by omega) (by omega)))
    clear hk4
    go_upto_region 8 with (first | (go_at_call 77; refine (H4.out _ HS.out.x).mono ?_; rintro e w1 ⟨rfl, rfl⟩))
    obtain ⟨Bs, hBs⟩ : ∃ Bs, wr.heap.size = Bs := ⟨_, rfl⟩
    obtain ⟨ent, hent⟩ : ∃ ent : Int, 2 * (i : Int) + (k4 : Int) = ent := ⟨_, rfl⟩
    obtain ⟨fz, hfz⟩ : ∃ fz : Bool, decide (i < fr) = fz := ⟨_, rfl⟩
    obtain ⟨v0, hv0⟩ : ∃ v0 : Int, 10 - (i : Int) = v0 := ⟨_, rfl⟩
    obtain ⟨w1, hw1⟩ : ∃ w1, (wr.alloc (.cells #[.int .i64 v0] 3)).alloc (.cells #[.int .i64 ent, .bool fz, .slice (some ⟨Bs, 0, none⟩) 1 1, .slice none 0 0] 46) = w1 := ⟨_, rfl⟩
    obtain ⟨zs, hzs⟩ : ∃ zs, Bs + 1 = zs := ⟨_, rfl⟩
    rw [hBs, hent, hfz, hv0]
    rw [hw1, hzs]
    have HIN := Lib.hid (show InS w ms ht fr secs (.slice As i cs) Bs zs ent fz (.slice (some ⟨Bs, 0, none⟩) 1 1) (.slice none 0 0) [v0] [] w1 from by
      have hlow := HS.out.low
      rw [hBs] at hlow
      have hxv : Ext wr (wr.alloc (.cells #[.int .i64 v0] 3)) := (Ext.refl wr).alloc _
      have hx1 : Ext wr w1 := by rw [← hw1]; exact hxv.alloc _
      have ho : kInt.own 3 (wr.alloc (.cells #[.int .i64 v0] 3)) Bs (fun _ => False) (.slice (some ⟨wr.heap.size, 0, none⟩) 1 1) [v0] := own_new (by omega) rfl
      rw [hBs] at ho
      refine ⟨hlow.keep (by rw [← hBs]; exact hx1), ?_, ?_, Lay.own_nil _ _ _ _ _, ?_, ?_, ?_, by omega⟩
      · rw [← hw1]; exact heap_alloc_at _ _ _ _ (by simp; omega)
      · rw [← hw1]; exact Lay.own_ext ho ((Ext.refl _).alloc _)
      · intro e; have : some Bs = some zs := e; injection this; omega
      · intro e; cases e
      · intro j _ e; cases e)
    have HSO := Lib.hid (And.intro hent (And.intro hfz hv0))
    have HB := Lib.hid hBs
    have HK4 := Lib.hid (show k4 ≤ 1 by omega)
    clear hBs hent hfz hv0 hw1 hzs
    have HT8 := Lib.hid (fun W (hW : Ext w W) => (show Calls Tryz.prog 87 #[.slice A m c, .int .i64 (12 + 6 * (i : Int))] W (TextGet W) from by
      have h9 := HTX.out W hW (12 + 6 * i) (by omega)
      rw [show ((12 + 6 * i : Nat) : Int) = 12 + 6 * (i : Int) by omega] at h9
      exact h9))
    have HT8' := Lib.hid (show Calls Tryz.prog 87 #[.slice A m c, .int .i64 (12 + 6 * (i : Int))] w1 (fun e w2 => ∃ t A1 n1 c1 A2 n2 c2, e = .returned (.agg #[.slice A1 n1 c1, .slice A2 n2 c2]) ∧ OkT t ∧ GT w1.heap.size t (.agg #[.slice A1 n1 c1, .slice A2 n2 c2]) w2 ∧ Ext w1 w2 ∧ w2.heap[zs]? = some (.cells #[.int .i64 ent, .bool fz, .slice (some ⟨Bs, 0, none⟩) 1 1, .slice none 0 0] 46 (0, 0))) from by
      refine (HT8.out w1 HIN.out.low.x).mono ?_
      rintro e w2 ⟨t, v, rfl, hok, hgt, hx⟩
      have hg2 := hgt
      obtain ⟨A1, n1, c1, A2, n2, c2, rfl, h1, h2, h3, h4⟩ := hgt
      exact ⟨t, A1, n1, c1, A2, n2, c2, rfl, hok, hg2, hx, (hx.block _ HIN.out.lt).trans HIN.out.s⟩)
    clear HT8
    go_upto_region 9 with (first | (go_at_call 87; refine (HT8'.out).mono ?_; rintro e w2 ⟨t, A1, n1, c1, A2, n2, c2, rfl, hok, hg, hx, hh⟩; have k3 := cell_of hh (i := 3) (u := .slice none 0 0) rfl; have f3 := frozen_of hh 3; have hzl := lt_of_block hh; have hzn : ¬ zs = w2.heap.size := (by omega); have HG := Lib.hid hg; have HX := Lib.hid hx; have HH := Lib.hid hh; have HOK := Lib.hid hok; clear hg hx hh hok))
    obtain ⟨w3, hw3⟩ : ∃ w3, ((w2.setCell ⟨zs, 3, none⟩ (.slice (some ⟨w2.heap.size, 0, none⟩) 1 1)).alloc (.cells #[.slice A1 n1 c1, .slice A2 n2 c2] 53)) = w3 := ⟨_, rfl⟩
    have hin3 := HIN.out.firstT HX.out HG.out
    obtain ⟨zt, hzt⟩ : ∃ zt, w2.heap.size = zt := ⟨_, rfl⟩
    rw [hzt] at hw3 hin3 ⊢
    rw [hw3] at hin3 ⊢
    have HIN3 := Lib.hid hin3
    clear hin3 hw3 hzt HIN HX HG HH HT8' hzl hzn k3 f3 H4
    obtain ⟨k8, hk8, hk8b⟩ := pk_nat l (8 + i) 3 (by omega)
    have H8 := Lib.hid (fun W hW => (show Calls Tryz.prog 77 #[.slice A m c, .int .i64 (8 + (i : Int)), .int .i64 3] W (fun e w' => e = .returned (.int .i64 (k8 : Int)) ∧ W = w') from by rw [← hk8]; exact HP.out W hW (8 + i) 3 _ _ (by omega) rfl (by omega) (by omega)))
    clear hk8
    go_wp2_with fail
    go_loopw [8] (fun s8 W => InR w ms ht fr secs (.slice As i cs) Bs zs ent fz v0 i s8 W) (fun s8 _ => toM 10 s8)
    case atStart => exact ⟨0, _, _, _, _, _, _, by omega, rfl, fun h => absurd rfl h, rfl, rfl, fun t ht => by (simp only [List.mem_singleton] at ht; subst ht; exact HOK.out), HIN3.out⟩
    case round =>
      clear HIN3 HS HOK
      rename World => wi
      obtain ⟨k, Av, Bt, cv, dt, vers, texts, hk2, rfl, hkf, hve, htl, hto, hIn⟩ := hrel
      have HVE := Lib.hid hve
      have HTL := Lib.hid htl
      have HTO := Lib.hid hto
      have HKF := Lib.hid hkf
      have HIN := Lib.hid hIn
      have s0 := cell_of hIn.s (i := 0) (u := .int .i64 ent) rfl
      have s1 := cell_of hIn.s (i := 1) (u := .bool fz) rfl
      have s2 := cell_of hIn.s (i := 2) (u := .slice Av (k + 1) cv) rfl
      have s3 := cell_of hIn.s (i := 3) (u := .slice Bt (k + 1) dt) rfl
      have f2 := frozen_of hIn.s 2
      have f3 := frozen_of hIn.s 3
      have hzl := hIn.lt
      clear hkf hve htl hto hIn
      by_cases hkk : k < k8 ∧ fz = true
      case neg =>
        have HSC := Lib.hid (show SecOk fr secs.length ⟨ent, fz, vers, texts⟩ from by
          obtain ⟨e1, e2, e3⟩ := HSO.out
          rw [HI.out]
          refine ⟨⟨by show 2 * (i : Int) ≤ ent; omega, by show ent ≤ 2 * (i : Int) + 1; have := HK4.out; omega⟩, e2.symm, ⟨k, hk2, fun h0 => ?_, by rw [e3]; exact HVE.out, HTL.out⟩, HTO.out⟩
          have := HKF.out h0
          rw [← e2] at this
          simpa using this)
        obtain ⟨A5, c5, w5, hrun, hb5, hS5⟩ := HIN.out.fin (by have := HI.out; omega) HSC.out
        rw [HI.out] at hrun hS5
        have HREL := Lib.hid (show BgR w ms ht fr n (.int .i64 ((i : Int) + 1)) (w5.setCell ⟨w.heap.size + 1, 2, none⟩ (.slice A5 (i + 1) c5)) from
          ⟨secs ++ [⟨ent, fz, vers, texts⟩], A5, c5, by rw [List.length_append, HI.out]; exact hlt, by rw [List.length_append, HI.out]; rfl, by rw [List.length_append, HI.out]; exact hS5⟩)
        have b2 := cell_of HIN.out.low.b (i := 2) (u := .slice As i cs) rfl
        have hbl : w.heap.size + 1 < wi.heap.size := lt_of_block HIN.out.low.b
        have hbn : ¬ w.heap.size + 1 = wi.heap.size := by omega
        have b5 := cell_of hb5 (i := 2) (u := .slice As i cs) rfl
        have g5 := frozen_of hb5 2
        have hzn : ¬ zs = wi.heap.size := by omega
        clear hS5 hb5 hk2
        by_cases hk9 : k < k8
        · have hf9 : fz = false := by
            cases fz
            · rfl
            · exact absurd ⟨hk9, rfl⟩ hkk
          subst hf9
          have gk : decide ((k : Int) < (k8 : Int)) = true := by rw [decide_eq_true_eq]; omega
          have gk2 : decide (k < k8) = true := by simpa using hk9
          clear hkk
          go_wp2_with (first
            | (go_at_call 77; refine (H8.out _ HIN.out.low.x).mono ?_; rintro e w1 ⟨rfl, rfl⟩)
            | (at_builtin; refine wpList_append_run (s := .tmp 86) (x := .tmp 88) hrun rfl rfl rfl rfl rfl ?_))
          go_roundw
          case rel => exact HREL.out
          case measure => simp only [toM]; omega
        · have gk : decide ((k : Int) < (k8 : Int)) = false := by rw [decide_eq_false_iff_not]; omega
          have gk2 : decide (k < k8) = false := by simpa using hk9
          clear hkk
          go_wp2_with (first
            | (go_at_call 77; refine (H8.out _ HIN.out.low.x).mono ?_; rintro e w1 ⟨rfl, rfl⟩)
            | (at_builtin; refine wpList_append_run (s := .tmp 86) (x := .tmp 88) hrun rfl rfl rfl rfl rfl ?_))
          go_roundw
          case rel => exact HREL.out
          case measure => simp only [toM]; omega
      obtain ⟨hk8', hfz⟩ := hkk
      subst hfz
      have hkI : (k : Int) < (k8 : Int) := by omega
      have gk : decide ((k : Int) < (k8 : Int)) = true := by simpa using hk8'
      have gk2 : decide (k < k8) = true := by simpa using hk8'
      go_upto_region 12 with (first | (go_at_call 77; refine (H8.out _ HIN.out.low.x).mono ?_; rintro e w1 ⟨rfl, rfl⟩))
      have HVL := Lib.hid (show vers.length = k + 1 by rw [HVE.out]; simp)
      obtain ⟨A5, c5, w5, hrun, hz5, hin5⟩ := HIN.out.appV (30 + 7 * (i : Int) - 3 * (k : Int)) (by have := HVL.out; omega)
      rw [HVL.out] at hrun hin5
      have z2 := cell_of hz5 (i := 2) (u := .slice Av (k + 1) cv) rfl
      have y2 := frozen_of hz5 2
      have hzn : ¬ zs = wi.heap.size := by omega
      have HIN5 := Lib.hid hin5
      clear hin5 hz5
      go_upto_region 13 with (first | (at_builtin; refine wpList_append_run (s := .tmp 62) (x := .tmp 69) hrun rfl rfl rfl rfl rfl ?_))
      obtain ⟨w6, hw6⟩ : ∃ w6, w5.setCell ⟨zs, 2, none⟩ (.slice A5 (k + 1 + 1) c5) = w6 := ⟨_, rfl⟩
      rw [hw6] at HIN5 ⊢
      clear hrun hw6 z2 y2 hzn s0 s1 s2 s3 f2 f3 hzl H8 HIN
      have hzl := HIN5.out.lt
      have hzn : ¬ zs = w6.heap.size := by omega
      have s3 := cell_of HIN5.out.s (i := 3) (u := .slice Bt (k + 1) dt) rfl
      have HT13 := Lib.hid (fun W (hW : Ext w6 W) => (show Calls Tryz.prog 87 #[.slice A m c, .int .i64 (15 + 6 * (i : Int) + 7 * (k : Int))] W (fun e w2 => ∃ t A1 n1 c1 A2 n2 c2, e = .returned (.agg #[.slice A1 n1 c1, .slice A2 n2 c2]) ∧ OkT t ∧ GT w6.heap.size t (.agg #[.slice A1 n1 c1, .slice A2 n2 c2]) w2 ∧ Ext w6 w2) from by
        have h9 := HTX.out W (HIN5.out.low.x.trans hW) (15 + 6 * i + 7 * k) (by omega)
        rw [show ((15 + 6 * i + 7 * k : Nat) : Int) = 15 + 6 * (i : Int) + 7 * (k : Int) by omega] at h9
        refine h9.mono ?_
        rintro e w2 ⟨t, v, rfl, hok, hgt, hx⟩
        have hg2 := hgt.low hW.lt
        obtain ⟨A1, n1, c1, A2, n2, c2, rfl, h1, h2, h3, h4⟩ := hgt
        exact ⟨t, A1, n1, c1, A2, n2, c2, rfl, hok, hg2, hW.trans hx⟩))
      have g6 : IntKind.i64.wrap (6 * (i : Int)) = 6 * (i : Int) := IntWalk.i64_in _ (by omega)
      have g15 : IntKind.i64.wrap (15 + 6 * (i : Int)) = 15 + 6 * (i : Int) := IntWalk.i64_in _ (by omega)
      have g7 : IntKind.i64.wrap (7 * (k : Int)) = 7 * (k : Int) := IntWalk.i64_in _ (by omega)
      have g80 : IntKind.i64.wrap (15 + 6 * (i : Int) + 7 * (k : Int)) = 15 + 6 * (i : Int) + 7 * (k : Int) := IntWalk.i64_in _ (by omega)
      go_region_law (first
        | (go_simp; go_at_call 87; refine (HT13.out _ ((Ext.refl _).drew)).mono ?_; rintro e w1 ⟨t9, B1, m1, d1, B2, m2, d2, rfl, hok9, hg9, hx9⟩; obtain ⟨A7, c7, w7, hrun, hz7, hin7⟩ := HIN5.out.appT hx9 hg9 (by have := HTL.out; omega); have c01 := cell_of ((hx9.block _ HIN5.out.lt).trans HIN5.out.s) (i := 3) (u := .slice Bt (k + 1) dt) rfl; have c02 := cell_of ((((Ext.refl w1).alloc (.cells #[.slice B1 m1 d1, .slice B2 m2 d2] 53)).block _ (lt_of_block ((hx9.block _ HIN5.out.lt).trans HIN5.out.s))).trans ((hx9.block _ HIN5.out.lt).trans HIN5.out.s)) (i := 3) (u := .slice Bt (k + 1) dt) rfl; have z3 := cell_of hz7 (i := 3) (u := .slice Bt (k + 1) dt) rfl; have y3 := frozen_of hz7 3; rw [HTL.out] at hrun hin7; have HIN7 := Lib.hid hin7; have HRUN := Lib.hid hrun; have HOK9 := Lib.hid hok9; clear hok9 hg9 hx9 hrun hin7 hz7; simp only [])
        | (refine gstep_append_run (s := .tmp 73) (x := .tmp 82) HRUN.out rfl rfl rfl rfl rfl ?_))
      all_goals
        go_wp2
        refine ⟨⟨k + 1, A5, A7, c5, c7, vers ++ [30 + 7 * (i : Int) - 3 * (k : Int)], texts ++ [t9], by omega, rfl, fun _ => rfl, ?_, ?_, fun t ht => ?_, HIN7.out⟩, by simp only [toM]; omega⟩
        · rw [HVE.out, List.range_succ, List.map_append]; rfl
        · rw [List.length_append, HTL.out]; rfl
        · rcases List.mem_append.1 ht with ht | ht
          · exact HTO.out t ht
          · simp only [List.mem_singleton] at ht; subst ht; exact HOK9.out
end Go.Proofs.YtdbnddmncbjobaaGreatDoor

/- The law's words and place: walked. -/
namespace Go.Proofs.YtdbnddmncbjobaaGreatDoor
open Go Go.RowKit

def WoR (n : Nat) (b : Nat) (s3 s4 : Value) : Prop := ∃ i s : Nat, i ≤ n ∧ s ≤ b + 1000 * i ∧ s3 = .int .i64 s ∧ s4 = .int .i64 i
set_option maxHeartbeats 4000000 in
set_option maxRecDepth 100000 in
theorem words_any (P : Nat → Prop) (w : World) (A A' : Option Addr) (n n' c c' : Nat) (t : Tx) (h1 : kWs.row w P A n t.paras) (h2 : kWs.row w P A' n' t.notes) (ht : OkT t) :
    Calls Tryz.prog 88 #[.agg #[.slice A n c, .slice A' n' c']] w (fun z w' => ∃ k : Nat, k ≤ 10000 ∧ z = .returned (.int .i64 k) ∧ Ext w w') := by
  have hn : n ≤ 4 := by have := Lay.row_len h1; have := ht.np; omega
  have hn' : n' ≤ 3 := by have := Lay.row_len h2; have := ht.nn; omega
  obtain ⟨w1, hw1⟩ : ∃ w1, w.alloc (.cells #[.slice A n c, .slice A' n' c'] 53) = w1 := ⟨_, rfl⟩
  have hx : Ext w w1 := by rw [← hw1]; exact (Ext.refl w).alloc _
  have hB : w1.heap[w.heap.size]? = some (.cells #[.slice A n c, .slice A' n' c'] 53 (0, 0)) := by rw [← hw1]; exact heap_alloc_new w _
  have b0 := cell_of hB (i := 0) (u := .slice A n c) rfl
  have b1 := cell_of hB (i := 1) (u := .slice A' n' c') rfl
  have HR1 := Lib.hid (Lay.row_ext h1 hx)
  have HR2 := Lib.hid (Lay.row_ext h2 hx)
  have HX := Lib.hid hx
  have HT := Lib.hid ht
  have HL1 := Lib.hid (Lay.row_len h1)
  have HL2 := Lib.hid (Lay.row_len h2)
  clear h1 h2 hx ht hB
  go_enter Tryz.func88, Tryz.ntmps88
  go_upto_region 1 with (fail)
  clear hw1
  go_wp2_with fail
  go_loop [3, 4] (fun s3 s4 => WoR n 0 s3 s4) (fun _ s4 => toM n s4)
  case atStart => exact ⟨0, 0, by omega, by omega, rfl, rfl⟩
  case round =>
    obtain ⟨i, s, hi, hs, rfl, rfl⟩ := hrel
    by_cases hlt : i < n
    case pos =>
      have hI : (i : Int) < (n : Int) := by omega
      obtain ⟨p, hp⟩ : ∃ p, t.paras[i]? = some p := ⟨_, List.getElem?_eq_getElem (by have := HL1.out; omega)⟩
      obtain ⟨bb, off, cs, rfl, hb0, _, hrep, hcell⟩ := Lay.row_at HR1.out hp
      obtain ⟨Ap, cp, rfl, hcp, hrp⟩ := kWs_rep.1 hrep
      have hce := hcell 0 _ rfl
      rw [kWs_sz, Nat.mul_one, Nat.add_zero] at hce
      have hpl := (HT.out.par.len p (List.mem_of_getElem? hp)).2
      obtain ⟨q, hq⟩ : ∃ q, p.length = q := ⟨_, rfl⟩
      rw [hq] at hce hpl
      clear hq hp hrep hrp hcell hcp
      go_wp2_with fail
      exact ⟨⟨i + 1, s + q, by omega, by omega, by simp, rfl⟩, by simp only [toM]; omega⟩
    have hni : ¬ (i : Int) < (n : Int) := by omega
    have hs4 : s ≤ 4000 := by omega
    clear hs
    go_wp2_with fail
    go_loop [3, 5] (fun s3 s5 => WoR n' 4000 s3 s5) (fun _ s5 => toM n' s5)
    case atStart => exact ⟨0, s, by omega, by omega, rfl, rfl⟩
    case round =>
      obtain ⟨j, s, hj, hs, rfl, rfl⟩ := hrel
      by_cases hlt2 : j < n'
      case pos =>
        have hI : (j : Int) < (n' : Int) := by omega
        obtain ⟨p, hp⟩ : ∃ p, t.notes[j]? = some p := ⟨_, List.getElem?_eq_getElem (by have := HL2.out; omega)⟩
        obtain ⟨bb, off, cs, rfl, hb0, _, hrep, hcell⟩ := Lay.row_at HR2.out hp
        obtain ⟨Ap, cp, rfl, hcp, hrp⟩ := kWs_rep.1 hrep
        have hce := hcell 0 _ rfl
        rw [kWs_sz, Nat.mul_one, Nat.add_zero] at hce
        have hpl := (HT.out.len p (List.mem_of_getElem? hp)).2
        obtain ⟨q, hq⟩ : ∃ q, p.length = q := ⟨_, rfl⟩
        rw [hq] at hce hpl
        clear hq hp hrep hrp hcell hcp
        go_wp2_with fail
        exact ⟨⟨j + 1, s + q, by omega, by omega, by simp, rfl⟩, by simp only [toM]; omega⟩
      have hnj : ¬ (j : Int) < (n' : Int) := by omega
      go_wp2_with fail
      go_ret
      exact ⟨s, by omega, rfl, HX.out⟩
def PcC (w1 : World) (ent : Int) (fz : Bool) (vV vT : Value) (s11 : Value) (wx : World) : Prop := ∃ z, s11 = .pointer (some ⟨z, 0, none⟩) ∧ wx.heap[z]? = some (.cells #[.int .i64 ent, .bool fz, vV, vT] 46 (0, 0)) ∧ Ext w1 wx
def PlaceGet (w : World) (z : Ending) (w' : World) : Prop := ∃ e x y : Int, z = .returned (.tuple #[.int .i64 e, .int .i64 x, .int .i64 y]) ∧ Ext w w'
set_option maxHeartbeats 4000000 in
set_option maxRecDepth 100000 in
theorem place_any (P : Nat → Prop) (w : World) (b : Bk) (a v wd : Int) (A : Option Addr) (N c : Nat) (hb : OkB b 100 100) (hr : kSe.row w P A N b.secs) (ha : -9223372036854775808 ≤ a ∧ a ≤ 9223372036854775807) (hv : -9223372036854775808 ≤ v ∧ v ≤ 9223372036854775807) (hw : -9223372036854775808 ≤ wd ∧ wd ≤ 9223372036854775807) :
    Calls Tryz.prog 40 #[.agg #[.int .i64 b.ms, .int .i64 b.ht, .slice A N c], .int .i64 a, .int .i64 v, .int .i64 wd] w (PlaceGet w) := by
  have hN : N ≤ 100 := by have := Lay.row_len hr; have := hb.n; omega
  have HA := Lib.hid (fun X (k : Int) (h1 : 1 ≤ k) (h2 : k ≤ 1000000000) => around_fn a k X ha.1 ha.2 h1 h2)
  have HV := Lib.hid (fun X (k : Int) (h1 : 1 ≤ k) (h2 : k ≤ 1000000000) => around_fn v k X hv.1 hv.2 h1 h2)
  have HW := Lib.hid (fun X (k : Int) (h1 : 1 ≤ k) (h2 : k ≤ 1000000000) => around_fn wd k X hw.1 hw.2 h1 h2)
  obtain ⟨w1, hw1⟩ : ∃ w1, w.alloc (.cells #[.int .i64 b.ms, .int .i64 b.ht, .slice A N c] 27) = w1 := ⟨_, rfl⟩
  have hx : Ext w w1 := by rw [← hw1]; exact (Ext.refl w).alloc _
  have hB : w1.heap[w.heap.size]? = some (.cells #[.int .i64 b.ms, .int .i64 b.ht, .slice A N c] 27 (0, 0)) := by rw [← hw1]; exact heap_alloc_new w _
  have b2 := cell_of hB (i := 2) (u := .slice A N c) rfl
  have hbl : w.heap.size < w1.heap.size := lt_of_block hB
  have HX := Lib.hid hx
  have HL := Lib.hid (Lay.row_len hr)
  have HR := Lib.hid (Lay.row_ext hr hx)
  have HB := Lib.hid hb
  clear hx hB hr hb ha hv hw
  go_enter Tryz.func40, Tryz.ntmps40
  go_upto_region 1 with (fail)
  clear hw1
  obtain ⟨a9, ha9, ha9b⟩ := around_nat a 9 (by omega)
  have HA9 := Lib.hid (show Calls Tryz.prog 42 #[.int .i64 a, .int .i64 9] w1 (fun e w' => e = .returned (.int .i64 (a9 : Int)) ∧ w1 = w') from by rw [← ha9]; exact HA.out w1 9 (by omega) (by omega))
  clear ha9
  by_cases h0 : N = 0
  · have g0 : ((N : Int) == 0) = true := by simp [h0]
    have H0 := Lib.hid h0
    clear h0
    go_wp2_with fail
    refine bodyPost_ret (v := .tuple #[.int .i64 a, .int .i64 v, .int .i64 wd]) (by simp [results, Tryz.results40, go_sem, *]) rfl ?_
    exact ⟨_, _, _, rfl, HX.out⟩
  have g0 : ((N : Int) == 0) = false := by simp; omega
  by_cases h9 : a9 = 0
  · have g9 : ((a9 : Int) == 0) = true := by simp [h9]
    have H9 := Lib.hid h9
    clear h9
    go_wp2_with (first | (go_at_call 42; refine (HA9.out).mono ?_; rintro e w2 ⟨rfl, rfl⟩))
    refine bodyPost_ret (v := .tuple #[.int .i64 a, .int .i64 v, .int .i64 wd]) (by simp [results, Tryz.results40, go_sem, *]) rfl ?_
    exact ⟨_, _, _, rfl, HX.out⟩
  have g9 : ((a9 : Int) == 0) = false := by simp; omega
  obtain ⟨i, hi, hib⟩ := around_nat a N (by omega)
  have HAN := Lib.hid (fun X => show Calls Tryz.prog 42 #[.int .i64 a, .int .i64 (N : Int)] X (fun e w' => e = .returned (.int .i64 (i : Int)) ∧ X = w') from by rw [← hi]; exact HA.out X N (by omega) (by omega))
  clear hi
  have hI : (i : Int) < (N : Int) := by omega
  obtain ⟨x, hxi⟩ : ∃ x, b.secs[i]? = some x := ⟨_, List.getElem?_eq_getElem (by have := HL.out; omega)⟩
  obtain ⟨bs, os, cs, rfl, hbs, _, hrep, hcs⟩ := Lay.row_at HR.out hxi
  obtain ⟨A1, n1, c1, A2, n2, c2, rfl, hn1, hn2, hr1, hr2⟩ := kSe_rep.1 hrep
  have e0 := hcs 0 _ rfl
  have e1 := hcs 1 _ rfl
  have e2 := hcs 2 _ rfl
  have e3 := hcs 3 _ rfl
  rw [kSe_sz] at e0 e1 e2 e3
  rw [Nat.add_zero] at e0
  have HXI := Lib.hid (List.mem_of_getElem? hxi)
  have HR1 := Lib.hid hr1
  have HR2 := Lib.hid hr2
  clear hrep hcs hr1 hr2 hxi
  go_upto_region 3 with (first | (go_at_call 42; refine (HA9.out).mono ?_; rintro e w2 ⟨rfl, rfl⟩))
  have hz1 := heap_alloc_new w1 (.cells #[.int .i64 x.ent, .bool x.fz, .slice A1 n1 c1, .slice A2 n2 c2] 46)
  have HZ1 := Lib.hid hz1
  have HXD := Lib.hid (show Ext w1 (w1.alloc (.cells #[.int .i64 x.ent, .bool x.fz, .slice A1 n1 c1, .slice A2 n2 c2] 46)).drew from ((Ext.refl w1).alloc _).drew)
  clear hz1
  go_cut [11] (fun s11 wx => PcC w1 x.ent x.fz (.slice A1 n1 c1) (.slice A2 n2 c2) s11 wx)
  case first =>
    go_region_law (first
      | (go_simp; go_at_call 42; refine (HAN.out _).mono ?_; rintro e w2 ⟨rfl, rfl⟩; simp only []))
    all_goals
      go_wp2
      go_meet
      case rel => exact ⟨w1.heap.size, rfl, HZ1.out, HXD.out⟩
  case rest =>
    obtain ⟨z, rfl, hz, hxz⟩ := hcut
    have hl := HB.out.vs x HXI.out
    have e9 := Lay.row_len HR1.out
    have e8 := Lay.row_len HR2.out
    obtain rfl : n1 = n2 := by omega
    have hn11 : 1 ≤ n1 := by
      have h9 := hl.2.1
      have : x.vers.length ≠ 0 := fun e => h9 (List.eq_nil_of_length_eq_zero e)
      omega
    have hn10 : n1 ≤ 100 := by omega
    have HZL := Lib.hid (lt_of_block hz)
    have y0 := cell_of hz (i := 0) (u := .int .i64 x.ent) rfl
    have y2 := cell_of hz (i := 2) (u := .slice A1 n1 c1) rfl
    have y3 := cell_of hz (i := 3) (u := .slice A2 n1 c2) rfl
    obtain ⟨k, hk, hkb⟩ := around_nat v n1 (by omega)
    have emx : max (1 : Int) (n1 : Int) = (n1 : Int) := by omega
    have HAV := Lib.hid (fun X => show Calls Tryz.prog 42 #[.int .i64 v, .int .i64 (n1 : Int)] X (fun e w' => e = .returned (.int .i64 (k : Int)) ∧ X = w') from by rw [← hk]; exact HV.out X n1 (by omega) (by omega))
    clear hk hl e9 e8
    have hk1 : ¬ (n1 : Int) ≤ (k : Int) := by omega
    have gk1 : decide ((n1 : Int) ≤ (k : Int)) = false := by rw [decide_eq_false_iff_not]; omega
    have gk3 : decide (n1 ≤ k) = false := by rw [decide_eq_false_iff_not]; omega
    have hK1 : (k : Int) < (n1 : Int) := by omega
    obtain ⟨vk, hvk⟩ : ∃ vk, x.vers[k]? = some vk := ⟨_, List.getElem?_eq_getElem (by have := Lay.row_len HR1.out; omega)⟩
    obtain ⟨tk, htk⟩ : ∃ tk, x.texts[k]? = some tk := ⟨_, List.getElem?_eq_getElem (by have := Lay.row_len HR2.out; omega)⟩
    obtain ⟨bv, ov, cv, rfl, hbv, _, hrv, hcv⟩ := Lay.row_at (Lay.row_ext HR1.out hxz) hvk
    obtain ⟨bt, ot, ct, rfl, hbt, _, hrt, hct⟩ := Lay.row_at (Lay.row_ext HR2.out hxz) htk
    obtain rfl : cv = [.int .i64 vk] := hrv
    obtain ⟨A3, n3, c3, A4, n4, c4, rfl, _, _, hr3, hr4⟩ := kTx_rep.1 hrt
    have v0 := hcv 0 _ rfl
    rw [show kInt.sz = 1 from rfl, Nat.mul_one, Nat.add_zero] at v0
    have t0 := hct 0 _ rfl
    have t1 := hct 1 _ rfl
    rw [kTx_sz] at t0 t1
    rw [Nat.add_zero] at t0
    have HWO := Lib.hid (fun X (hX : Ext wc X) => words_any P X A3 A4 n3 n4 c3 c4 tk (Lay.row_ext hr3 hX) (Lay.row_ext hr4 hX) (HB.out.tx x HXI.out tk (List.mem_of_getElem? htk)))
    have HQ := Lib.hid (fun X (hX : Ext wc X) => (show X.cell? ⟨z, 0, none⟩ = some (.int .i64 x.ent) ∧ X.cell? ⟨z, 2, none⟩ = some (.slice (some ⟨bv, ov, none⟩) n1 c1) ∧ X.cell? ⟨z, 3, none⟩ = some (.slice (some ⟨bt, ot, none⟩) n1 c2) ∧ X.cell? ⟨bv, ov + k, none⟩ = some (.int .i64 vk) ∧ X.cell? ⟨bt, ot + k * 2, none⟩ = some (.slice A3 n3 c3) ∧ X.cell? ⟨bt, ot + k * 2 + 1, none⟩ = some (.slice A4 n4 c4) from by
      obtain ⟨q, _⟩ := hX.cells
      exact ⟨(q _ _ HZL.out).trans y0, (q _ _ HZL.out).trans y2, (q _ _ HZL.out).trans y3, (q _ _ hbv).trans v0, (q _ _ hbt).trans t0, (q _ _ hbt).trans t1⟩))
    have HXZ := Lib.hid (HX.out.trans hxz)
    clear hvk htk hcv hct hrt hr3 hr4 hz hxz HR1 HR2
    go_upto_region 7 with (first | (go_at_call 42; refine (HAV.out _).mono ?_; rintro e w2 ⟨rfl, rfl⟩))
    have hcur : Ext wc wc.drew := (Ext.refl _).drew
    go_region_held3 (fun W => W.cell? ⟨z, 0, none⟩ = some (.int .i64 x.ent) ∧ W.cell? ⟨z, 2, none⟩ = some (.slice (some ⟨bv, ov, none⟩) n1 c1) ∧ W.cell? ⟨z, 3, none⟩ = some (.slice (some ⟨bt, ot, none⟩) n1 c2) ∧ W.cell? ⟨bv, ov + k, none⟩ = some (.int .i64 vk) ∧ W.cell? ⟨bt, ot + k * 2, none⟩ = some (.slice A3 n3 c3) ∧ W.cell? ⟨bt, ot + k * 2 + 1, none⟩ = some (.slice A4 n4 c4)) (exact HQ.out _ hcur) (first
      | (go_at_call 88; refine (HWO.out _ hcur).mono ?_; rintro e wG ⟨q, hq, rfl, hxG⟩; have hcur := hcur.trans hxG)
      | (go_at_call 42; refine (HW.out _ _ (by rw [IntWalk.i64_in _ (by omega)]; omega) (by rw [IntWalk.i64_in _ (by omega)]; omega)).mono ?_; rintro e wR ⟨rfl, rfl⟩))
    go_wp2_with fail
    refine bodyPost_ret (v := .tuple #[.int .i64 x.ent, .int .i64 vk, .int .i64 (arnd wd (IntKind.i64.wrap ((q : Int) + 2)))]) (by simp [results, Tryz.results40, go_sem, *]) rfl ?_
    exact ⟨_, _, _, rfl, HXZ.out.trans hcur⟩
end Go.Proofs.YtdbnddmncbjobaaGreatDoor

/- cite.Of with one shape of answer; what Freeze leaves. -/
namespace Go.Proofs.YtdbnddmncbjobaaGreatDoor
open Go Go.RowKit

def ofT (o : Option (Int × Int × Nat)) (br : Int) : Int × Int × Int × Int × Bool := match o with | none => (0, 0, 0, 0, false) | some (n, s, i) => (br, n, s, (i : Int), true)
def OfG (w : World) (b : Bk) (br e v wd : Int) (z : Ending) (w' : World) : Prop :=
  ∃ (c0 c1 c2 c3 : Int) (ok : Bool), ofT (ofP b br e v wd) br = (c0, c1, c2, c3, ok) ∧ z = .returned (.tuple #[.agg #[.int .i64 c0, .int .i64 c1, .int .i64 c2, .int .i64 c3], .bool ok]) ∧ Ext w w'
theorem of_gen (P : Nat → Prop) (w : World) (b : Bk) (br e v wd : Int) (A : Option Addr) (N c : Nat) (hb : BkI b) (hr : kSe.row w P A N b.secs) (hL : EnvW w) :
    Calls Tryz.prog 48 #[.agg #[.int .i64 b.ms, .int .i64 b.ht, .slice A N c], .int .i64 br, .int .i64 e, .int .i64 v, .int .i64 wd] w (OfG w b br e v wd) := by
  refine (of_any P w b br e v wd A N c hb hr hL).mono ?_
  rintro z w' ⟨hx, (⟨h1, rfl⟩ | ⟨n, s, i, h1, rfl⟩)⟩
  · exact ⟨0, 0, 0, 0, false, by rw [h1]; rfl, rfl, hx⟩
  · exact ⟨br, n, s, i, true, by rw [h1]; rfl, rfl, hx⟩
theorem frzIn_frz (b : Bk) (e : Int) (h : frzIn b e = true) : frzIn (frzP b) e = true := by
  unfold frzIn at h ⊢
  rw [List.any_eq_true] at h ⊢
  obtain ⟨x, hx, hd⟩ := h
  simp only [Bool.and_eq_true] at hd
  exact ⟨{ x with fz := true }, List.mem_map_of_mem hx, by simp only [Bool.and_eq_true]; exact ⟨hd.1, trivial⟩⟩
theorem OkB.big {b : Bk} {N V N' V' : Nat} (h : OkB b N V) (hN : N ≤ N') (hV : V ≤ V') : OkB b N' V' :=
  ⟨h.m0, h.m1, h.h0, h.h1, Nat.le_trans h.n hN, fun x hx => ⟨(h.vs x hx).1, (h.vs x hx).2.1, Nat.le_trans (h.vs x hx).2.2 hV⟩, h.tx, h.ent⟩
end Go.Proofs.YtdbnddmncbjobaaGreatDoor

/- What CiteLeads asks: plain. -/
namespace Go.Proofs.YtdbnddmncbjobaaGreatDoor
open Go Go.RowKit

theorem pagesT_all (R : List Ln → List Ln → Prop) (ent ver : Int) (first : Bool) : ∀ (ps : List (List Ln × List Ln)) (n s : Int), (∀ q ∈ ps, R q.1 q.2) → ∀ p ∈ (pagesT ent ver first ps n s).1, R p.body p.nts := by
  intro ps
  induction ps with
  | nil => intro n s _ p hp; simp [pagesT] at hp
  | cons a ps ih =>
    intro n s h p hp
    simp only [pagesT] at hp
    rcases List.mem_cons.1 hp with rfl | hp
    · exact h a (by simp)
    · exact ih _ _ (fun q hq => h q (by simp [hq])) p hp
theorem pagesV_all (R : List Ln → List Ln → Prop) (m h ent : Int) : ∀ (vs : List Int) (ts : List Tx) (f : Bool) (n s : Int), (∀ t ∈ ts, ∀ q ∈ (textP t m h).2, R q.1 q.2) → ∀ p ∈ (pagesV m h ent vs ts f n s).1, R p.body p.nts := by
  intro vs
  induction vs with
  | nil => intro ts f n s _ p hp; simp [pagesV] at hp
  | cons v vs ih =>
    intro ts f n s hk p hp
    cases ts with
    | nil => simp [pagesV] at hp
    | cons t ts =>
      simp only [pagesV] at hp
      rcases List.mem_append.1 hp with hp | hp
      · exact pagesT_all R _ _ _ _ _ _ (hk t (by simp)) p hp
      · exact ih ts _ _ _ (fun t ht => hk t (by simp [ht])) p hp
theorem pagesS_all (R : List Ln → List Ln → Prop) (m h : Int) : ∀ (l : List Se) (n : Int), (∀ x ∈ l, ∀ t ∈ x.texts, ∀ q ∈ (textP t m h).2, R q.1 q.2) → ∀ p ∈ pagesS m h l n, R p.body p.nts := by
  intro l
  induction l with
  | nil => intro n _ p hp; simp [pagesS] at hp
  | cons x l ih =>
    intro n hk p hp
    simp only [pagesS] at hp
    rcases List.mem_append.1 hp with hp | hp
    · exact pagesV_all R _ _ _ _ _ _ _ _ (hk x (by simp)) p hp
    · exact ih _ (fun y hy => hk y (by simp [hy])) p hp
theorem OkB.hgt {b : Bk} {N V : Nat} (h : OkB b N V) : ∀ p ∈ pagesB b, (p.body ++ p.nts).length ≤ 100 := by
  intro p hp
  have := pagesS_all (fun x y => x.length + y.length ≤ 100) b.ms b.ht b.secs 0 (fun x hx t ht q hq => by
    have h9 := (textP_ok (h.tx x hx t ht) h.m0 h.m1 h.h0 h.h1).2.2.2 q hq
    have := h.h1
    show q.1.length + q.2.length ≤ 100
    omega) p hp
  rw [List.length_append]
  exact this
/-- Where a word of a frozen book stands: the page, the line and the citation. -/
theorem leads_plain {b : Bk} (h : OkB b 4 3) (hf : ∀ x ∈ b.secs, x.fz = true) (br e v wd : Int) (h0 : 0 ≤ br) (h1 : br < 256) :
    (whereP b e v wd = none ∧ ofP b br e v wd = none) ∨
    ∃ (n s : Int) (i : Nat) (p : Pg) (x : Ln), whereP b e v wd = some (n, s, i) ∧ ofP b br e v wd = some (n, s, i) ∧ citP b n s i = some (p, x) ∧ p.ent = e ∧ p.ver = v ∧ x.fr ≤ wd ∧ wd < x.un ∧ i ≤ 100 ∧ citB ⟨br, n, s, i⟩ = true := by
  cases hw : whereP b e v wd with
  | none =>
    refine .inl ⟨rfl, ?_⟩
    unfold ofP
    split
    · rfl
    · exact hw
  | some a =>
    obtain ⟨n, s, i⟩ := a
    obtain ⟨p, hp, hg, rfl, rfl, g1, g2, g3, g4, g5, g6, x, g7, g8, g9⟩ := where_page h.pgs hw
    have hi := h.hgt p hp
    have hn := h.n
    obtain ⟨y, hy, he, _⟩ := pagesS_mem b.ms b.ht b.secs 0 p hp
    have hz : frzIn b p.ent = true := by
      unfold frzIn
      rw [List.any_eq_true]
      exact ⟨y, hy, by rw [he, hf y hy]; simp⟩
    refine .inr ⟨n, s, i, p, x, rfl, ?_, ?_, rfl, rfl, g8, g9, by omega, ?_⟩
    · unfold ofP
      rw [if_neg (by rw [hz]; simp; omega)]
      exact hw
    · unfold citP
      rw [hg]
      show (if (i : Int) < 1 then none else _) = _
      rw [if_neg (by omega), show ((i : Int) - 1).toNat = i - 1 by omega, g7]
      rfl
    · apply citB_yes <;> simp only [labB] <;> (try simp only [Bool.and_eq_true, decide_eq_true_eq]) <;> omega
theorem frzP_all (b : Bk) : ∀ x ∈ (frzP b).secs, x.fz = true := by
  intro x hx
  obtain ⟨y, _, rfl⟩ := List.mem_map.1 hx
  rfl
end Go.Proofs.YtdbnddmncbjobaaGreatDoor

/- The law CiteFrozen: walked. -/
namespace Go.Proofs.YtdbnddmncbjobaaGreatDoor
open Go Go.RowKit

end Go.Proofs.YtdbnddmncbjobaaGreatDoor

/- Boxes of four cells; the world in which cite.Parse calls its closures. -/
namespace Go.Proofs.YtdbnddmncbjobaaGreatDoor
open Go Go.RowKit

/-- A box of four numbers, not frozen. -/
structure Box (W : World) (b : Nat) (v0 v1 v2 v3 : Int) : Prop where
  lt : b < W.heap.size
  c0 : W.cell? ⟨b, 0, none⟩ = some (.int .i64 v0)
  c1 : W.cell? ⟨b, 1, none⟩ = some (.int .i64 v1)
  c2 : W.cell? ⟨b, 2, none⟩ = some (.int .i64 v2)
  c3 : W.cell? ⟨b, 3, none⟩ = some (.int .i64 v3)
  f0 : W.frozen? ⟨b, 0, none⟩ = false
  f1 : W.frozen? ⟨b, 1, none⟩ = false
  f2 : W.frozen? ⟨b, 2, none⟩ = false
  f3 : W.frozen? ⟨b, 3, none⟩ = false
theorem Box.keep {w W W' : World} {b : Nat} {v0 v1 v2 v3 : Int} (h : Box W b v0 v1 v2 v3) (k : Keep w W W') (h1 : b ≠ w.heap.size + 1) (h2 : b ≠ w.heap.size + 2) : Box W' b v0 v1 v2 v3 :=
  ⟨Nat.lt_of_lt_of_le h.lt k.size, by rw [k.cell _ _ h1 h2 h.lt]; exact h.c0, by rw [k.cell _ _ h1 h2 h.lt]; exact h.c1, by rw [k.cell _ _ h1 h2 h.lt]; exact h.c2, by rw [k.cell _ _ h1 h2 h.lt]; exact h.c3,
    by rw [k.frozen _ _ h1 h2 h.lt]; exact h.f0, by rw [k.frozen _ _ h1 h2 h.lt]; exact h.f1, by rw [k.frozen _ _ h1 h2 h.lt]; exact h.f2, by rw [k.frozen _ _ h1 h2 h.lt]; exact h.f3⟩
theorem Box.ext {W W' : World} {b : Nat} {v0 v1 v2 v3 : Int} (h : Box W b v0 v1 v2 v3) (hx : Ext W W') : Box W' b v0 v1 v2 v3 := by
  obtain ⟨q, p⟩ := hx.cells
  exact ⟨Nat.lt_of_lt_of_le h.lt hx.lt, by rw [q _ _ h.lt]; exact h.c0, by rw [q _ _ h.lt]; exact h.c1, by rw [q _ _ h.lt]; exact h.c2, by rw [q _ _ h.lt]; exact h.c3,
    by rw [p _ _ h.lt]; exact h.f0, by rw [p _ _ h.lt]; exact h.f1, by rw [p _ _ h.lt]; exact h.f2, by rw [p _ _ h.lt]; exact h.f3⟩
theorem Box.new (W : World) (v0 v1 v2 v3 : Int) (t : TypeId) : Box (W.alloc (.cells #[.int .i64 v0, .int .i64 v1, .int .i64 v2, .int .i64 v3] t)) W.heap.size v0 v1 v2 v3 :=
  ⟨by simp, by go_simp, by go_simp, by go_simp, by go_simp, by go_simp, by go_simp, by go_simp, by go_simp⟩
theorem Box.other {W : World} {b : Nat} {v0 v1 v2 v3 : Int} (h : Box W b v0 v1 v2 v3) {b' o : Nat} (hne : b' ≠ b) (u : Value) : Box (W.setCell ⟨b', o, none⟩ u) b v0 v1 v2 v3 := by
  have e : ∀ i, (W.setCell ⟨b', o, none⟩ u).cell? ⟨b, i, none⟩ = W.cell? ⟨b, i, none⟩ := fun i => World.cell?_setCell_other _ _ _ _ (by intro e; injection e with e1; exact hne e1)
  have f : ∀ i, (W.setCell ⟨b', o, none⟩ u).frozen? ⟨b, i, none⟩ = W.frozen? ⟨b, i, none⟩ := fun i => by rw [World.frozen?_setCell]
  exact ⟨by simpa using h.lt, by rw [e]; exact h.c0, by rw [e]; exact h.c1, by rw [e]; exact h.c2, by rw [e]; exact h.c3, by rw [f]; exact h.f0, by rw [f]; exact h.f1, by rw [f]; exact h.f2, by rw [f]; exact h.f3⟩
theorem Box.set0 {W : World} {b : Nat} {v0 v1 v2 v3 : Int} (h : Box W b v0 v1 v2 v3) (u : Int) : Box (W.setCell ⟨b, 0, none⟩ (.int .i64 u)) b u v1 v2 v3 := by
  have e : ∀ i, i ≠ 0 → (W.setCell ⟨b, 0, none⟩ (.int .i64 u)).cell? ⟨b, i, none⟩ = W.cell? ⟨b, i, none⟩ := fun i hi => World.cell?_setCell_other _ _ _ _ (by intro e; injection e with e1 e2; exact hi e2.symm)
  have f : ∀ i, (W.setCell ⟨b, 0, none⟩ (.int .i64 u)).frozen? ⟨b, i, none⟩ = W.frozen? ⟨b, i, none⟩ := fun i => by rw [World.frozen?_setCell]
  exact ⟨by simpa using h.lt, World.cell?_setCell_same _ _ _ h.c0, by rw [e _ (by omega)]; exact h.c1, by rw [e _ (by omega)]; exact h.c2, by rw [e _ (by omega)]; exact h.c3, by rw [f]; exact h.f0, by rw [f]; exact h.f1, by rw [f]; exact h.f2, by rw [f]; exact h.f3⟩
theorem Box.set1 {W : World} {b : Nat} {v0 v1 v2 v3 : Int} (h : Box W b v0 v1 v2 v3) (u : Int) : Box (W.setCell ⟨b, 1, none⟩ (.int .i64 u)) b v0 u v2 v3 := by
  have e : ∀ i, i ≠ 1 → (W.setCell ⟨b, 1, none⟩ (.int .i64 u)).cell? ⟨b, i, none⟩ = W.cell? ⟨b, i, none⟩ := fun i hi => World.cell?_setCell_other _ _ _ _ (by intro e; injection e with e1 e2; exact hi e2.symm)
  have f : ∀ i, (W.setCell ⟨b, 1, none⟩ (.int .i64 u)).frozen? ⟨b, i, none⟩ = W.frozen? ⟨b, i, none⟩ := fun i => by rw [World.frozen?_setCell]
  exact ⟨by simpa using h.lt, by rw [e _ (by omega)]; exact h.c0, World.cell?_setCell_same _ _ _ h.c1, by rw [e _ (by omega)]; exact h.c2, by rw [e _ (by omega)]; exact h.c3, by rw [f]; exact h.f0, by rw [f]; exact h.f1, by rw [f]; exact h.f2, by rw [f]; exact h.f3⟩
theorem Box.set2 {W : World} {b : Nat} {v0 v1 v2 v3 : Int} (h : Box W b v0 v1 v2 v3) (u : Int) : Box (W.setCell ⟨b, 2, none⟩ (.int .i64 u)) b v0 v1 u v3 := by
  have e : ∀ i, i ≠ 2 → (W.setCell ⟨b, 2, none⟩ (.int .i64 u)).cell? ⟨b, i, none⟩ = W.cell? ⟨b, i, none⟩ := fun i hi => World.cell?_setCell_other _ _ _ _ (by intro e; injection e with e1 e2; exact hi e2.symm)
  have f : ∀ i, (W.setCell ⟨b, 2, none⟩ (.int .i64 u)).frozen? ⟨b, i, none⟩ = W.frozen? ⟨b, i, none⟩ := fun i => by rw [World.frozen?_setCell]
  exact ⟨by simpa using h.lt, by rw [e _ (by omega)]; exact h.c0, by rw [e _ (by omega)]; exact h.c1, World.cell?_setCell_same _ _ _ h.c2, by rw [e _ (by omega)]; exact h.c3, by rw [f]; exact h.f0, by rw [f]; exact h.f1, by rw [f]; exact h.f2, by rw [f]; exact h.f3⟩
theorem Box.set3 {W : World} {b : Nat} {v0 v1 v2 v3 : Int} (h : Box W b v0 v1 v2 v3) (u : Int) : Box (W.setCell ⟨b, 3, none⟩ (.int .i64 u)) b v0 v1 v2 u := by
  have e : ∀ i, i ≠ 3 → (W.setCell ⟨b, 3, none⟩ (.int .i64 u)).cell? ⟨b, i, none⟩ = W.cell? ⟨b, i, none⟩ := fun i hi => World.cell?_setCell_other _ _ _ _ (by intro e; injection e with e1 e2; exact hi e2.symm)
  have f : ∀ i, (W.setCell ⟨b, 3, none⟩ (.int .i64 u)).frozen? ⟨b, i, none⟩ = W.frozen? ⟨b, i, none⟩ := fun i => by rw [World.frozen?_setCell]
  exact ⟨by simpa using h.lt, by rw [e _ (by omega)]; exact h.c0, by rw [e _ (by omega)]; exact h.c1, by rw [e _ (by omega)]; exact h.c2, World.cell?_setCell_same _ _ _ h.c3, by rw [f]; exact h.f0, by rw [f]; exact h.f1, by rw [f]; exact h.f2, by rw [f]; exact h.f3⟩
theorem Box.store {W : World} {b : Nat} {v0 v1 v2 v3 : Int} (h : Box W b v0 v1 v2 v3) (u0 u1 u2 u3 : Int) :
    Box ((((W.setCell ⟨b, 0, none⟩ (.int .i64 u0)).setCell ⟨b, 1, none⟩ (.int .i64 u1)).setCell ⟨b, 2, none⟩ (.int .i64 u2)).setCell ⟨b, 3, none⟩ (.int .i64 u3)) b u0 u1 u2 u3 :=
  (((h.set0 u0).set1 u1).set2 u2).set3 u3
theorem PSt.other {w W : World} {r : ByteArray} {k : Bool} (h : PSt w W r k) {b o : Nat} (h0 : w.heap.size ≤ b) (h1 : b ≠ w.heap.size + 1) (h2 : b ≠ w.heap.size + 2) (u : Value) : PSt w (W.setCell ⟨b, o, none⟩ u) r k :=
  ⟨h.ext.setCell h0 _, by simpa using h.size, by rw [World.cell?_setCell_other _ _ _ _ (by intro e; injection e with e1; exact h1 e1)]; exact h.rest,
    by rw [World.cell?_setCell_other _ _ _ _ (by intro e; injection e with e1; exact h2 e1)]; exact h.ok, by rw [World.frozen?_setCell]; exact h.frest, by rw [World.frozen?_setCell]; exact h.fok⟩
/-- The world in which the first closure is called. -/
def start (w : World) (s : ByteArray) : World := ((w.alloc (.cells #[.int .i64 0, .int .i64 0, .int .i64 0, .int .i64 0] 69)).alloc (.cells #[.string s] 9)).alloc (.cells #[.bool true] 4)
theorem pst_start (w : World) (s : ByteArray) : PSt w (start w s) s true ∧ Box (start w s) w.heap.size 0 0 0 0 := by
  unfold start
  refine ⟨⟨(((Ext.refl w).alloc _).alloc _).alloc _, by simp, by go_simp, by go_simp, by go_simp, by go_simp⟩, ?_⟩
  exact ((Box.new w 0 0 0 0 69).ext ((Ext.refl _).alloc _)).ext ((Ext.refl _).alloc _)
end Go.Proofs.YtdbnddmncbjobaaGreatDoor

/- The contract of cite.Parse. -/
namespace Go.Proofs.YtdbnddmncbjobaaGreatDoor
open Go Go.RowKit

def CPost (r : Ct × Int) (w : World) (e : Ending) (w' : World) : Prop := e = .returned (.tuple #[r.1.val, .int .i64 r.2]) ∧ Ext w w'
/-- Behind the literal: the citation's box, the two numbers, what the variables hold. -/
def LitRel (w : World) (r : ByteArray) (k : Bool) (bs xs : List UInt8) (s10 : Value) (wx : World) : Prop :=
  ∃ (b : Nat) (v x : Int), s10 = .pointer (some ⟨b, 0, none⟩) ∧ w.heap.size + 3 ≤ b ∧ Box wx b v 0 0 x ∧ Box wx w.heap.size 0 0 0 0 ∧ PSt w wx r (k && (numP bs).isSome && (numP xs).isSome) ∧ (∀ n, numP bs = some n → v = n) ∧ (∀ n, numP xs = some n → x = n)
theorem cut_len {l a b : List UInt8} {f : Bool} (h : Lib.cut l [47] = (a, b, f)) : a.length ≤ l.length ∧ b.length ≤ l.length := by
  unfold Lib.cut at h
  split at h
  · injection h with h1 h2
    injection h2 with h2 h3
    subst h1 h2
    simp; omega
  · injection h with h1 h2
    injection h2 with h2 h3
    subst h1 h2
    simp
set_option maxHeartbeats 4000000 in
set_option maxRecDepth 100000 in
theorem cparse_any (s : ByteArray) (w : World) (hs : s.size ≤ 281474976710656) (hE : Env w) : Calls Tryz.prog 49 #[.string s] w (CPost (parseP s.data.toList) w) := by
  obtain ⟨b, r, f, hc1⟩ : ∃ b r f, Lib.cut s.data.toList [47] = (b, r, f) := ⟨_, _, _, rfl⟩
  obtain ⟨m, x, g, hc2⟩ : ∃ m x g, Lib.cut r [47] = (m, x, g) := ⟨_, _, _, rfl⟩
  have hpc := parse_cuts s.data.toList b r m x f g hc1 hc2
  have HPC := Lib.hid hpc
  have HS := Lib.hid (pst_start w s)
  have hlen : b.length ≤ 281474976710656 ∧ r.length ≤ 281474976710656 ∧ m.length ≤ 281474976710656 ∧ x.length ≤ 281474976710656 := by
    have h1 := cut_len hc1
    have h2 := cut_len hc2
    have h3 : s.data.toList.length = s.size := by simp
    omega
  obtain ⟨B, hB⟩ : ∃ B : ByteArray, B = ⟨b.toArray⟩ := ⟨_, rfl⟩
  obtain ⟨R, hR⟩ : ∃ B : ByteArray, B = ⟨r.toArray⟩ := ⟨_, rfl⟩
  obtain ⟨M, hM⟩ : ∃ B : ByteArray, B = ⟨m.toArray⟩ := ⟨_, rfl⟩
  obtain ⟨X, hX⟩ : ∃ B : ByteArray, B = ⟨x.toArray⟩ := ⟨_, rfl⟩
  have HP1 := Lib.hid (fun (W : World) (hW : PSt w W s true) => (show Calls Tryz.prog 98 #[.pointer (some ⟨w.heap.size + 1, 0, none⟩), .pointer (some ⟨w.heap.size + 2, 0, none⟩)] W (fun e W' => e = .returned (.string B) ∧ PSt w W' R (true && f) ∧ Keep w W W') from hB ▸ hR ▸ part_any w W s true b r f hs hc1 hW))
  have HP2 := Lib.hid (fun (W : World) (hW : PSt w W R (true && f)) => (show Calls Tryz.prog 98 #[.pointer (some ⟨w.heap.size + 1, 0, none⟩), .pointer (some ⟨w.heap.size + 2, 0, none⟩)] W (fun e W' => e = .returned (.string M) ∧ PSt w W' X (true && f && g) ∧ Keep w W W') from hM ▸ hX ▸ part_any w W R (true && f) m x g (by rw [hR]; exact hlen.2.1) (by rw [hR]; exact hc2) hW))
  have HN1 := Lib.hid (fun (W : World) (k : Bool) (hW : PSt w W X k) (hEW : Ext w W) => (show Calls Tryz.prog 100 #[.string B, .pointer (some ⟨w.heap.size + 2, 0, none⟩)] W (NumPost w W b X k) from by have := num_any w W B X k (by rw [hB]; exact hlen.1) (hE.ext hEW) hW; rw [hB] at this ⊢; exact this))
  have HN2 := Lib.hid (fun (W : World) (k : Bool) (hW : PSt w W X k) (hEW : Ext w W) => (show Calls Tryz.prog 100 #[.string X, .pointer (some ⟨w.heap.size + 2, 0, none⟩)] W (NumPost w W x X k) from by have := num_any w W X X k (by rw [hX]; exact hlen.2.2.2) (hE.ext hEW) hW; rw [hX] at this ⊢; exact this))
  have HL := Lib.hid (fun (W : World) => (show Calls Tryz.prog 103 #[.string M] W (LPost (labR (labP m)) W) from by have := labp_any M W (by rw [hM]; exact hlen.2.2.1); rw [hM] at this ⊢; exact this))
  clear hB hR hM hX hc1 hc2 hpc hlen hE
  go_enter Tryz.func49, Tryz.ntmps49
  go_upto_region 5 with (first
    | (go_at_call 98; refine (HP1.out _ HS.out.1).mono ?_; rintro e w1 ⟨rfl, hS1, hK1⟩)
    | (go_at_call 98; refine (HP2.out _ hS1).mono ?_; rintro e w2 ⟨rfl, hS2, hK2⟩))
  have hb2 : Box w2 w.heap.size 0 0 0 0 := (HS.out.2.keep (hK1.trans hK2) (by omega) (by omega))
  have hsz := hS2.size
  have hx2 := hS2.ext
  go_cut [10] (fun s10 wx => LitRel w X (true && f && g) b x s10 wx)
  case first =>
    have hr2 := hS2.rest
    have hr2a : ∀ o, (w2.alloc o).cell? ⟨w.heap.size + 1, 0, none⟩ = some (.string X) := fun o => (World.cell?_alloc_lt _ _ _ (by show w.heap.size + 1 < w2.heap.size; omega)).trans hr2
    go_region_with (first
      | (have hg := hS3; clear hg; go_at_call 100; refine (HN2.out _ _ (hS3.mono ?_) ?_).mono ?_; (first | exact Ext.refl _ | exact (Ext.refl _).alloc _); (first | exact hS3.ext | exact hS3.ext.alloc _); rintro e w4 ⟨x', rfl, hS4, hK4, hx'⟩; have hsz4 := hS4.size; (first | (have hbr4 := hbr3.keep hK4 (by omega) (by omega)) | (have hbr4 := (hbr3.ext ((Ext.refl _).alloc _)).keep hK4 (by omega) (by omega))); (first | (have hb4 := hb3.keep hK4 (by omega) (by omega); have HB4 := Lib.hid hb4; obtain ⟨a9, a0, a1, a2, a3, g0, g1, g2, g3⟩ := hb4) | (have hb4 := (Box.new w3 0 0 0 0 69).keep hK4 (by omega) (by omega); have HB4 := Lib.hid hb4; obtain ⟨a9, a0, a1, a2, a3, g0, g1, g2, g3⟩ := hb4) | skip))
      | (go_at_call 100; refine (HN1.out _ _ (hS2.mono ?_) ?_).mono ?_; (first | exact (Ext.refl _).drew | exact ((Ext.refl _).alloc _).drew); (first | exact hx2.drew | exact (hx2.alloc _).drew); rintro e w3 ⟨v', rfl, hS3, hK3, hv'⟩; have hsz3 := hS3.size; (first | (have hbr3 := (hb2.ext (Ext.refl _).drew).keep hK3 (by omega) (by omega)) | (have hbr3 := (hb2.ext ((Ext.refl _).alloc _).drew).keep hK3 (by omega) (by omega))); have hr3 := hS3.rest; have hr3a : ∀ o, (w3.alloc o).cell? ⟨w.heap.size + 1, 0, none⟩ = some (.string X) := fun o => (World.cell?_alloc_lt _ _ _ (by show w.heap.size + 1 < w3.heap.size; omega)).trans hr3; (try have hb3 := ((Box.new w2 0 0 0 0 69).ext ((Ext.refl _).drew)).keep hK3 (by omega) (by omega))))
    all_goals
      go_wp2_with fail
      go_meet
      case rel =>
        first
        | exact ⟨_, _, _, rfl, by omega, Box.new _ _ _ _ _ _, hbr4.ext ((Ext.refl _).alloc _), hS4.mono ((Ext.refl _).alloc _), hv', hx'⟩
        | (refine ⟨_, _, _, rfl, ?_, HB4.out.store _ _ _ _, ?_, ?_, hv', hx'⟩
           · omega
           · iterate 4 (refine Box.other ?_ (by omega) _)
             exact hbr4
           · iterate 4 (refine PSt.other ?_ (by omega) (by omega) (by omega) _)
             exact hS4)
  case rest =>
    obtain ⟨b0, v, x', rfl, hbn, hbox, hres, hS, hv, hx'⟩ := hcut
    have hxc := hS.ext
    have hszc := hS.size
    clear HP1 HP2 HN1 HN2 hS1 hS2 hK1 hK2 hb2
    have HV := Lib.hid hv
    have HX := Lib.hid hx'
    clear hv hx'
    cases hK : (true && f && g && (numP b).isSome && (numP x).isSome) with
    | false =>
      rw [hK] at hS
      have hno : parseP s.data.toList = (ct0, 7) := by
        rw [HPC.out]
        split
        · rename_i hfg
          rw [hfg.1, hfg.2] at hK
          cases hb : numP b with
          | none => exact read3_b hb
          | some nb =>
            cases hx : numP x with
            | none => exact read3_x hx
            | some nx => rw [hb, hx] at hK; simp at hK
        · rfl
      have HNO := Lib.hid hno
      have hok := hS.ok
      obtain ⟨e9, e0, e1, e2, e3, k0, k1, k2, k3⟩ := hres
      clear hK hno HPC HL
      go_wp2_with fail
      refine bodyPost_ret (v := .tuple #[.agg #[.int .i64 0, .int .i64 0, .int .i64 0, .int .i64 0], .int .i64 7]) (by simp [results, Tryz.results49, go_sem, *]) rfl ?_
      exact ⟨by rw [HNO.out]; rfl, by repeat (first | exact hxc | refine Ext.setCell ?_ (Nat.le_refl _) _)⟩
    | true =>
      rw [hK] at hS
      simp only [Bool.true_and, Bool.and_eq_true] at hK
      obtain ⟨⟨⟨hf, hg⟩, hb⟩, hx⟩ := hK
      obtain ⟨nb, hb⟩ := Option.isSome_iff_exists.1 hb
      obtain ⟨nx, hx⟩ := Option.isSome_iff_exists.1 hx
      have hP : parseP s.data.toList = read3 b m x := by rw [HPC.out, hf, hg]; simp
      obtain rfl := HV.out nb hb
      obtain rfl := HX.out nx hx
      have hok := hS.ok
      have HLx : ∀ (n0 s0 e0 : Int), labR (labP m) = (n0, s0, e0) → ∀ W, Calls Tryz.prog 103 #[.string M] W (fun e W' => e = .returned (.tuple #[.agg #[.int .i64 n0, .int .i64 s0], .int .i64 e0]) ∧ Ext W W') := fun n0 s0 e0 h W => by
        have := HL.out W; rw [h] at this; exact this
      clear HPC HL HV HX hS
      cases hm : labP m with
      | none =>
        have HF := Lib.hid (show parseP s.data.toList = (ct0, 7) by rw [hP, read3_m hm])
        have HC := Lib.hid (HLx 0 0 7 (by rw [hm]; rfl))
        clear hP hm HLx hb hx hf hg
        go_wp2_with (first | (go_at_call 103; refine (HC.out _).mono ?_; rintro e w5 ⟨rfl, hx5⟩; obtain ⟨e9, e0, e1, e2, e3, k0, k1, k2, k3⟩ := hres.ext hx5))
        refine bodyPost_ret (v := .tuple #[.agg #[.int .i64 0, .int .i64 0, .int .i64 0, .int .i64 0], .int .i64 7]) (by simp [results, Tryz.results49, go_sem, *]) rfl ?_
        exact ⟨by rw [HF.out]; rfl, by repeat (first | exact hxc.trans hx5 | refine Ext.alloc ?_ _ | refine Ext.setCell ?_ (Nat.le_refl _) _)⟩
      | some ns =>
        obtain ⟨n, su⟩ := ns
        have hR := read3_ok hb hx hm
        cases hlb : labB n su with
        | false =>
          have HF := Lib.hid (show parseP s.data.toList = (ct0, 5) by
            rw [hP, hR, if_neg]
            rw [citB_no (.inr (.inr (.inr (.inr hlb))))]; simp)
          have HC := Lib.hid (HLx 0 0 5 (by rw [hm]; unfold labR; simp only [hlb]; rfl))
          clear hP hm HLx hb hx hf hg hR hlb
          go_wp2_with (first | (go_at_call 103; refine (HC.out _).mono ?_; rintro e w5 ⟨rfl, hx5⟩; obtain ⟨e9, e0, e1, e2, e3, k0, k1, k2, k3⟩ := hres.ext hx5))
          refine bodyPost_ret (v := .tuple #[.agg #[.int .i64 0, .int .i64 0, .int .i64 0, .int .i64 0], .int .i64 5]) (by simp [results, Tryz.results49, go_sem, *]) rfl ?_
          exact ⟨by rw [HF.out]; rfl, by repeat (first | exact hxc.trans hx5 | refine Ext.alloc ?_ _ | refine Ext.setCell ?_ (Nat.le_refl _) _)⟩
        | true =>
          have HC := Lib.hid (HLx n su 0 (by rw [hm]; unfold labR; simp only [hlb]; rfl))
          have hd1 : b0 ≠ w.heap.size := by omega
          cases hcb : citB (mkCt nb n su nx) with
          | false =>
            have HF := Lib.hid (show parseP s.data.toList = (ct0, 5) by rw [hP, hR, hcb]; rfl)
            have HVa := Lib.hid (fun W => (show Calls Tryz.prog 104 #[.agg #[.int .i64 nb, .int .i64 n, .int .i64 su, .int .i64 nx]] W (BoolPost false W) from hcb ▸ valid_any (mkCt nb n su nx) W))
            clear hP hm HLx hb hx hf hg hR hlb hcb
            go_wp2_with (first | (go_at_call 103; refine (HC.out _).mono ?_; rintro e w5 ⟨rfl, hx5⟩; obtain ⟨e9, e0, e1, e2, e3, k0, k1, k2, k3⟩ := hres.ext hx5; obtain ⟨d9, d0, d1, d2, d3, l0, l1, l2, l3⟩ := hbox.ext hx5) | (go_at_call 104; refine (HVa.out _).mono ?_; rintro e w6 ⟨rfl, hx6⟩; (first | (have hc6 := ((((hbox.ext hx5).set1 n).set2 su).ext ((Ext.refl _).alloc _)).ext hx6; have hr6 := ((((hres.ext hx5).other hd1 _).other hd1 _).ext ((Ext.refl _).alloc _)).ext hx6) | (have hc6 := ((((hbox.ext hx5).ext ((Ext.refl _).alloc _)).set1 n).set2 su).ext hx6; have hr6 := ((((hres.ext hx5).ext ((Ext.refl _).alloc _)).other hd1 _).other hd1 _).ext hx6)); have HX6 := Lib.hid hx6; clear hx6; obtain ⟨p9, p0, p1, p2, p3, q0, q1, q2, q3⟩ := hc6; obtain ⟨r9, r0, r1, r2, r3, t0, t1, t2, t3⟩ := hr6))
            refine bodyPost_ret (v := .tuple #[.agg #[.int .i64 0, .int .i64 0, .int .i64 0, .int .i64 0], .int .i64 5]) (by simp [results, Tryz.results49, go_sem, *]) rfl ?_
            exact ⟨by rw [HF.out]; rfl, by
              iterate 4 (refine Ext.setCell ?_ (Nat.le_refl _) _)
              refine Ext.trans ?_ HX6.out
              repeat (first | exact hxc.trans hx5 | refine Ext.alloc ?_ _ | refine Ext.setCell ?_ (by show w.heap.size ≤ b0; omega) _)⟩
          | true =>
            have HF := Lib.hid (show parseP s.data.toList = (mkCt nb n su nx, 0) by rw [hP, hR, hcb]; rfl)
            have HVa := Lib.hid (fun W => (show Calls Tryz.prog 104 #[.agg #[.int .i64 nb, .int .i64 n, .int .i64 su, .int .i64 nx]] W (BoolPost true W) from hcb ▸ valid_any (mkCt nb n su nx) W))
            clear hP hm HLx hb hx hf hg hR hlb hcb
            go_wp2_with (first | (go_at_call 103; refine (HC.out _).mono ?_; rintro e w5 ⟨rfl, hx5⟩; obtain ⟨e9, e0, e1, e2, e3, k0, k1, k2, k3⟩ := hres.ext hx5; obtain ⟨d9, d0, d1, d2, d3, l0, l1, l2, l3⟩ := hbox.ext hx5) | (go_at_call 104; refine (HVa.out _).mono ?_; rintro e w6 ⟨rfl, hx6⟩; (first | (have hc6 := ((((hbox.ext hx5).set1 n).set2 su).ext ((Ext.refl _).alloc _)).ext hx6; have hr6 := ((((hres.ext hx5).other hd1 _).other hd1 _).ext ((Ext.refl _).alloc _)).ext hx6) | (have hc6 := ((((hbox.ext hx5).ext ((Ext.refl _).alloc _)).set1 n).set2 su).ext hx6; have hr6 := ((((hres.ext hx5).ext ((Ext.refl _).alloc _)).other hd1 _).other hd1 _).ext hx6)); have HX6 := Lib.hid hx6; clear hx6; obtain ⟨p9, p0, p1, p2, p3, q0, q1, q2, q3⟩ := hc6; obtain ⟨r9, r0, r1, r2, r3, t0, t1, t2, t3⟩ := hr6))
            refine bodyPost_ret (v := .tuple #[.agg #[.int .i64 nb, .int .i64 n, .int .i64 su, .int .i64 nx], .int .i64 0]) (by simp [results, Tryz.results49, go_sem, *]) rfl ?_
            exact ⟨by rw [HF.out]; rfl, by
              iterate 4 (refine Ext.setCell ?_ (Nat.le_refl _) _)
              refine Ext.trans ?_ HX6.out
              repeat (first | exact hxc.trans hx5 | refine Ext.alloc ?_ _ | refine Ext.setCell ?_ (by show w.heap.size ≤ b0; omega) _)⟩
end Go.Proofs.YtdbnddmncbjobaaGreatDoor

/- The law CiteLeads: walked. -/
namespace Go.Proofs.YtdbnddmncbjobaaGreatDoor
open Go Go.RowKit

theorem of_no {w w' : World} {b : Bk} {br e v wd : Int} {z : Ending} (h : ofP b br e v wd = none) (g : OfG w b br e v wd z w') :
    z = .returned (.tuple #[.agg #[.int .i64 0, .int .i64 0, .int .i64 0, .int .i64 0], .bool false]) ∧ Ext w w' := by
  obtain ⟨c0, c1, c2, c3, ok, h1, rfl, hx⟩ := g
  rw [h] at h1
  simp only [ofT, Prod.mk.injEq] at h1
  obtain ⟨rfl, rfl, rfl, rfl, rfl⟩ := h1
  exact ⟨rfl, hx⟩
theorem of_yes {w w' : World} {b : Bk} {br e v wd n s : Int} {i : Nat} {z : Ending} (h : ofP b br e v wd = some (n, s, i)) (g : OfG w b br e v wd z w') :
    z = .returned (.tuple #[.agg #[.int .i64 br, .int .i64 n, .int .i64 s, .int .i64 i], .bool true]) ∧ Ext w w' := by
  obtain ⟨c0, c1, c2, c3, ok, h1, rfl, hx⟩ := g
  rw [h] at h1
  simp only [ofT, Prod.mk.injEq] at h1
  obtain ⟨rfl, rfl, rfl, rfl, rfl⟩ := h1
  exact ⟨rfl, hx⟩
end Go.Proofs.YtdbnddmncbjobaaGreatDoor

/- slices.Index and Contains of numbers, glyph.Count, book.within, book.wrong: walked. -/
namespace Go.Proofs.YtdbnddmncbjobaaGreatDoor
open Go Go.RowKit

def IxRel (v : Int) (xs : List Int) (W : World) (s8 : Value) (w' : World) : Prop := ∃ i : Nat, i ≤ xs.length ∧ s8 = .int .i64 i ∧ (∀ y ∈ xs.take i, (y == v) = false) ∧ W = w'
set_option maxHeartbeats 4000000 in
set_option maxRecDepth 100000 in
theorem index_int (P : Nat → Prop) (w : World) (A : Option Addr) (n c : Nat) (xs : List Int) (v : Int) (h : kInt.row w P A n xs) (hn : n ≤ 1000000) :
    Calls Tryz.prog 107 #[.slice A n c, .int .i64 v] w (fun e w' => e = .returned (.int .i64 (idxI (fun x => x == v) xs)) ∧ w = w') := by
  have HL := Lib.hid (Lay.row_len h)
  have HR := Lib.hid h
  clear h
  go_enter Tryz.func107, Tryz.ntmps107
  go_wp2_with fail
  go_loopw [5, 8] (fun _ s8 w' => IxRel v xs w s8 w') (fun _ s8 _ => toM n s8)
  case atStart => exact ⟨0, by omega, rfl, by simp, rfl⟩
  case round =>
    obtain ⟨i, hi, rfl, hno, rfl⟩ := hrel
    rw [← HL.out] at hi
    have HN := Lib.hid hno
    clear hno
    by_cases hlt : i < n
    case neg =>
      obtain rfl : i = n := by omega
      have hni : ¬ ((i : Int) < (i : Int)) := by omega
      have HF := Lib.hid (show idxI (fun x => x == v) xs = -1 from idxI_neg _ _ fun y hy => HN.out y (by rw [HL.out, List.take_length]; exact hy))
      go_wp2_with fail
      go_ret
      exact ⟨ret_i HF.out.symm, rfl⟩
    have hI : (i : Int) < (n : Int) := by omega
    obtain ⟨x, hxi⟩ : ∃ x, xs[i]? = some x := ⟨_, List.getElem?_eq_getElem (by have := HL.out; omega)⟩
    obtain ⟨b, off, rfl, hb1, _, hcell⟩ := int_at HR.out hxi
    have HX := Lib.hid hxi
    clear hxi
    by_cases hv : v = x
    · have hb : (v == x) = true := by simpa using hv
      have HF := Lib.hid (show idxI (fun x => x == v) xs = i from idxI_at _ _ i x HN.out HX.out (by simp [hv]))
      clear hv
      go_wp2_with fail
      go_ret
      exact ⟨ret_i HF.out.symm, rfl⟩
    · have hb : (v == x) = false := by simpa using hv
      have HNX := Lib.hid (take_none HN.out HX.out (show (x == v) = false by simp; exact fun e => hv e.symm))
      clear hv
      go_wp2_with fail
      go_roundw
      case rel => exact ⟨i + 1, by have := HL.out; omega, by simp, HNX.out, rfl⟩
      case measure => simp only [toM]; omega
theorem contains_int (P : Nat → Prop) (w : World) (A : Option Addr) (n c : Nat) (xs : List Int) (v : Int) (h : kInt.row w P A n xs) (hn : n ≤ 1000000) :
    Calls Tryz.prog 86 #[.slice A n c, .int .i64 v] w (fun e w' => e = .returned (.bool (decide (v ∈ xs))) ∧ w = w') := by
  have HI := Lib.hid (index_int P w A n c xs v h hn)
  obtain ⟨r, hr⟩ : ∃ r, idxI (fun x => x == v) xs = r := ⟨_, rfl⟩
  have HB := Lib.hid (show decide (0 ≤ r) = decide (v ∈ xs) by
    rw [← hr, idxI_any, Bool.eq_iff_iff, List.any_eq_true, decide_eq_true_eq]
    exact ⟨fun ⟨x, hx, e⟩ => by simp only [beq_iff_eq] at e; rw [← e]; exact hx, fun hv => ⟨v, hv, by simp⟩⟩)
  rw [hr] at HI
  rw [← HB.out]
  clear h hr
  go_enter Tryz.func86, Tryz.ntmps86
  go_wp2_with (first | (go_at_call 107; refine (HI.out).mono ?_; rintro e w1 ⟨rfl, rfl⟩))
  go_ret
  exact ⟨rfl, rfl⟩
theorem within_any (w : World) (n lo hi : Int) : Calls Tryz.prog 82 #[.int .i64 n, .int .i64 lo, .int .i64 hi] w (fun e w' => e = .returned (.bool (decide (lo ≤ n) && decide (n ≤ hi))) ∧ w = w') := by
  go_enter Tryz.func82, Tryz.ntmps82
  by_cases h1 : lo ≤ n
  · have g1 : decide (lo ≤ n) = true := by simpa using h1
    go_wp2
    go_ret
    simp [g1]
  · have g1 : decide (lo ≤ n) = false := by simpa using h1
    go_wp2
    go_ret
    simp
def CoR (w1 : World) (L : List (List Wd)) (s3 s13 : Value) (w' : World) : Prop := ∃ i : Nat, i ≤ L.length ∧ s13 = .int .i64 i ∧ s3 = .int .i64 (wordsN (L.take i) : Nat) ∧ w1 = w'
theorem wordsN_take (L : List (List Wd)) (i : Nat) {p : List Wd} (h : L[i]? = some p) : wordsN (L.take (i + 1)) = wordsN (L.take i) + p.length := by
  unfold wordsN
  rw [List.take_add_one, h]
  simp
theorem wordsN_le (L : List (List Wd)) (i : Nat) : wordsN (L.take i) ≤ wordsN L := by
  unfold wordsN
  conv => rhs; rw [← List.take_append_drop i L]
  rw [List.map_append, List.sum_append]
  omega
set_option maxHeartbeats 4000000 in
set_option maxRecDepth 100000 in
theorem count_any (P : Nat → Prop) (w : World) (A A' : Option Addr) (n n' c c' : Nat) (t : Tx) (h1 : kWs.row w P A n t.paras) (h2 : kWs.row w P A' n' t.notes) (hp : t.paras.length ≤ 10000) (hn : t.notes.length ≤ 10000) (hb : wordsN (t.paras ++ t.notes) ≤ 1000000) :
    Calls Tryz.prog 31 #[.agg #[.slice A n c, .slice A' n' c']] w (fun e w' => e = .returned (.int .i64 (wordsN (t.paras ++ t.notes) : Nat)) ∧ Ext w w') := by
  have HC := Lib.hid (fun X (hx : Ext w X) g hg g0 g1 => cat72 kWs rfl P X g A A' n n' c c' _ _ (Lay.row_ext h1 hx) (Lay.row_ext h2 hx) (by have := Lay.row_len h1; omega) (by have := Lay.row_len h2; omega) hg g0 g1)
  obtain ⟨L, hLe⟩ : ∃ L, t.paras ++ t.notes = L := ⟨_, rfl⟩
  obtain ⟨m, hm⟩ : ∃ m, L.length = m := ⟨_, rfl⟩
  have hm2 : m ≤ 20000 := by rw [← hm, ← hLe, List.length_append]; omega
  rw [hLe] at HC
  rw [hLe] at hb ⊢
  have HM := Lib.hid hm
  have HB := Lib.hid hb
  have HC2 := Lib.hid (fun X (hx : Ext w X) g hg g0 g1 => (show Calls Tryz.prog 72 #[.slice (some ⟨g, 0, none⟩) 2 2] X (fun e X' => ∃ A3 c3, e = .returned (.slice A3 m c3) ∧ kWs.row X' (fun j => P j ∨ X.heap.size ≤ j) A3 m L ∧ Ext X X') from by
    refine (HC.out X hx g hg g0 g1).mono ?_
    rintro e X' ⟨A3, c3, rfl, ho, hxx⟩
    obtain ⟨Ar, cr, er, _, hrow⟩ := Lay.own_row ho
    obtain ⟨e1, _, _⟩ := Value.slice.inj er
    subst hm
    rw [← e1] at hrow
    exact ⟨A3, c3, rfl, Lay.row_mono hrow fun j hj _ => hj.imp id fun hj => (Lay.own_lt ho j hj).1, hxx⟩))
  clear h1 h2 hp hn hLe hm hb HC
  go_enter Tryz.func31, Tryz.ntmps31
  go_wp2_with (first | (go_at_call 72; refine (HC2.out _ (((Ext.refl w).alloc _).alloc _) _ (by simp) (by go_simp) (by go_simp)).mono ?_; rintro e w1 ⟨A3, c3, rfl, hrow, hx⟩; have HRW := Lib.hid hrow; have HX := Lib.hid ((((Ext.refl w).alloc _).alloc _).trans hx); clear hrow hx))
  go_loopw [3, 5, 13] (fun s3 _ s13 w' => CoR w1 L s3 s13 w') (fun _ _ s13 _ => toM m s13)
  case atStart => exact ⟨0, by omega, rfl, by simp [wordsN], rfl⟩
  case round =>
    obtain ⟨i, hi, rfl, rfl, rfl⟩ := hrel
    rw [HM.out] at hi
    have hq1 := wordsN_le L i
    have hq2 := HB.out
    obtain ⟨q, hq⟩ : ∃ q, wordsN (L.take i) = q := ⟨_, rfl⟩
    rw [hq] at hq1 ⊢
    have HQ := Lib.hid hq
    clear hq
    by_cases hlt : i < m
    case neg =>
      obtain rfl : i = m := by omega
      have hni : ¬ ((i : Int) < (i : Int)) := by omega
      have HF := Lib.hid (show ((wordsN L : Nat) : Int) = (q : Int) by rw [← HQ.out, ← HM.out, List.take_length])
      go_wp2_with fail
      go_ret
      exact ⟨ret_i HF.out.symm, HX.out⟩
    have hI : (i : Int) < (m : Int) := by omega
    obtain ⟨p, hpi⟩ : ∃ p, L[i]? = some p := ⟨_, List.getElem?_eq_getElem (by have := HM.out; omega)⟩
    obtain ⟨bl, ol, cl, rfl, hbl, _, hrl, hcl⟩ := Lay.row_at HRW.out hpi
    obtain ⟨Ap, cp, rfl, _, _⟩ := kWs_rep.1 hrl
    have e0 := hcl 0 _ rfl
    rw [show kWs.sz = 1 from rfl, Nat.mul_one, Nat.add_zero] at e0
    have HST := Lib.hid (wordsN_take L i hpi)
    have hq3 := wordsN_le L (i + 1)
    rw [HST.out, HQ.out] at hq3
    have HPI := Lib.hid hpi
    clear hcl hrl hpi
    go_wp2_with fail
    go_roundw
    case rel => exact ⟨i + 1, by have := HM.out; omega, by simp, by rw [HST.out, HQ.out]; simp, rfl⟩
    case measure => simp only [toM]; omega
end Go.Proofs.YtdbnddmncbjobaaGreatDoor

/- slices.AppendSeq at book.all's iterator, slices.Collect, book.Pages: walked. -/
namespace Go.Proofs.YtdbnddmncbjobaaGreatDoor
open Go Go.RowKit Go.Shelf
attribute [local go_sem] Oper.semAt_some

theorem wpListIn_append_run {F : Fence} {n : Nat} {P : Program} {w : World} {ops : Array Oper} {rest : List Oper} {o : Oper} {a : Act} {Q : Exit → Act → World → Prop} {s x : Operand} {t : TypeId} {vs vx v' : Value} {w' : World}
    (hr : (Builtin.append_ #[t, t] t #[vs, vx]).run P w = .ok v' w') (hgd : o.guard = none)
    (ho : o.op = .call { callee := .builtin .append, args := #[s, x], argTypes := #[t, t] }) (hty : o.type = t) (hs : a.eval s = vs) (hx : a.eval x = vx)
    (h : wpListIn F n P ops Q rest (a.put o.dst v') w') : wpListIn F n P ops Q (o :: rest) a w := by
  refine wpListIn_plain hgd fun K hK => ?_
  unfold Oper.wpIn
  refine ⟨by simp [Oper.about, ho, resolve, Target.leads, Sem.run_pure], ?_⟩
  rw [Oper.semAt_plain F _ _ (by rw [ho]; intro c hc'; cases hc')]
  rw [← hty] at hr
  simp [execOp, ho, resolve, invoke, builtin, hs, hx, hty, Result.andThen]
  rw [hty] at hr
  simp [hr]
  exact hK _ _ h
def ClPost (w : World) (b : Bk) (e : Ending) (w' : World) : Prop := ∃ A n c, e = .returned (.slice A n c) ∧ n ≤ c ∧ n ≤ 1000000 ∧ kPg.row w' (fun j => w.heap.size ≤ j) A n (pagesB b) ∧ Ext w w'
/-- Between two rounds: the pages that have come are in a row of the call's own. -/
structure ClI (w : World) (D z : Nat) (pre : List PgV) (q : Nat → Prop) (W : World) : Prop where
  x : Ext w W
  s : D + 2 ≤ W.heap.size
  hq : ∀ j, q j → j ≠ z ∧ j ≠ D ∧ j ≠ D + 1
  v : ∃ A n c, n = pre.length ∧ n ≤ c ∧ W.heap[z]? = some (.cells #[.slice A n c] 106 (0, 0)) ∧ kPg.own 84 W (D + 3) (fun j => D + 3 ≤ j) (.slice A n c) (pre.map (·.1)) ∧ ∀ j, (Value.slice A n c).ownBlock = some j → ¬ q j
theorem ClI.ab {w wl : World} {z : Nat} (hwz : w.heap.size ≤ z) (hz : z < wl.heap.size) : AbMv (wl.heap.size + 2) (ClI w wl.heap.size z) := by
  intro s Q Q' A B h hm hg
  obtain ⟨Ad, n, c, h1, h2, h3, h4, h5⟩ := h.v
  have hlt := Lay.own_lt h4
  have hA := h.s
  refine ⟨hm.ext w (by omega) h.x, Nat.le_trans h.s hm.size, fun j hj => ?_, Ad, n, c, h1, h2, hm.blk (by omega) h3, Lay.own_keep h4 hm.size fun j hj hl => hm.keep j ?_ hl, fun j hj hq => ?_⟩
  · rcases hg j hj with h1 | h1 | h1
    · exact h.hq j h1
    · omega
    · omega
  · rcases hj with hj | hj
    · omega
    · have := hlt j hj; omega
  · have := hlt j hj
    rcases hg j hq with h6 | h6 | h6
    · exact h5 j hj h6
    · omega
    · omega
theorem ClI.put {w wl : World} {z : Nat} (hwz : w.heap.size ≤ z) (hz : z < wl.heap.size) {s : List PgV} {q : Nat → Prop} {W : World} {k : Nat} {o : Obj} (hk : k = wl.heap.size + 1 ∨ k = wl.heap.size) (h : ClI w wl.heap.size z s q W) : ClI w wl.heap.size z s q (W.putObj k o) := by
  obtain ⟨Ad, n, c, h1, h2, h3, h4, h5⟩ := h.v
  have hlt := Lay.own_lt h4
  refine ⟨h.x.putObj (by omega) o, by simpa using h.s, h.hq, Ad, n, c, h1, h2, (World.putObj_heap_other (by omega)).trans h3, Lay.own_keep h4 (by simp) fun j hj _ => World.putObj_heap_other ?_, h5⟩
  rcases hj with hj | hj
  · omega
  · have := hlt j hj; omega
def ClAx (D z zb : Nat) (x : PgV) (_ : Nat → Prop) (a' : Act) (W : World) : Prop :=
  ∃ Bx, D + 2 < Bx ∧ W.heap[Bx]? = some (.cells (pgCells x.1 x.2.1.1 x.2.1.2.1 x.2.1.2.2 x.2.2.1 x.2.2.2.1 x.2.2.2.2) 84 (0, 0)) ∧
    a' = { tmps := #[.slice none 0 0, .func (.func 126) #[] #[.pointer (some ⟨zb, 0, none⟩)], .pointer (some ⟨z, 0, none⟩), undef, .slice none 0 0, .pointer (some ⟨Bx, 0, none⟩), .func (.func 126) #[] #[.pointer (some ⟨zb, 0, none⟩)],
      .agg (pgCells x.1 x.2.1.1 x.2.1.2.1 x.2.1.2.2 x.2.2.1 x.2.2.2.1 x.2.2.2.2), undef, undef, undef, undef, undef], defers := [] }
/-- A page is appended. -/
theorem cl_app {w wl W : World} {z : Nat} {pre : List PgV} {q : Nat → Prop} (hwz : w.heap.size ≤ z) (hz : z < wl.heap.size) (hI : ClI w wl.heap.size z pre q W) {x : PgV} (hrp : pgRp (fun j => (q j ∧ j ≠ wl.heap.size + 2) ∧ wl.heap.size ≤ j) x W) (hqs : ∀ j, q j → j < W.heap.size) (hlen : wl.heap.size + 2 < W.heap.size) (hpl : pre.length < 10000000) :
    ∃ Ad n cc A' n' c' w', W.heap[z]? = some (.cells #[.slice Ad n cc] 106 (0, 0)) ∧ (Builtin.append_ #[106, 106] 106 #[.slice Ad n cc, .slice (some ⟨W.heap.size, 0, none⟩) 1 1]).run Tryz.prog (W.alloc (.cells (pgCells x.1 x.2.1.1 x.2.1.2.1 x.2.1.2.2 x.2.2.1 x.2.2.2.1 x.2.2.2.2) 84)) = .ok (.slice A' n' c') w' ∧
      w'.heap[z]? = some (.cells #[.slice Ad n cc] 106 (0, 0)) ∧ ((w'.setCell ⟨z, 0, none⟩ (.slice A' n' c')).heap[wl.heap.size + 1]? = W.heap[wl.heap.size + 1]? ∧ (w'.setCell ⟨z, 0, none⟩ (.slice A' n' c')).heap[wl.heap.size]? = W.heap[wl.heap.size]?) ∧ (∀ j, q j → (w'.setCell ⟨z, 0, none⟩ (.slice A' n' c')).heap[j]? = W.heap[j]?) ∧ ClI w wl.heap.size z (pre ++ [x]) q (w'.setCell ⟨z, 0, none⟩ (.slice A' n' c')) := by
  obtain ⟨Ad, n, cc, h1, h2, h3, h4, h5⟩ := hI.v
  obtain ⟨pg, ⟨A7, n7, c7⟩, ⟨A8, n8, c8⟩⟩ := x
  obtain ⟨k1, k2, k3, k4, _⟩ := hrp
  dsimp only at k1 k2 k3 k4
  have hsub : ∀ j, ((q j ∧ j ≠ wl.heap.size + 2) ∧ wl.heap.size ≤ j) → j < W.heap.size → wl.heap.size + 3 ≤ j ∧ (Value.slice Ad n cc).ownBlock ≠ some j := fun j hj _ => by
    have := hI.hq j hj.1.1
    exact ⟨by omega, fun e => h5 j e hj.1.1⟩
  have hlt := Lay.own_lt h4
  obtain ⟨A', c', w', r1, r2, r3, r4, r5, r6⟩ := own_app1 (k := kPg) (Pr := Tryz.prog) (t := 106) Tryz.underlying106 info84 rfl (by decide) (by omega) h4 (by omega) (cs := pgCells pg A7 n7 c7 A8 n8 c8) (T := 84) (x := pg) (kPg_rep.2 ⟨A7, n7, c7, A8, n8, c8, rfl, k1, k2, Lay.row_mono k3 hsub, Lay.row_mono k4 hsub⟩) 1 (by rw [List.length_map]; omega)
  have hw : ∀ j, j < W.heap.size → (Value.slice Ad n cc).ownBlock ≠ some j → j ≠ z → (w'.setCell ⟨z, 0, none⟩ (.slice A' ((pre.map (·.1)).length + 1) c')).heap[j]? = W.heap[j]? := fun j hj ho hz => (heap_setCell_other _ ⟨z, 0, none⟩ j _ hz).trans (r4 j hj ho)
  have hzW := lt_of_block h3
  have hzo : (Value.slice Ad n cc).ownBlock ≠ some z := fun e => by have := hlt z e; omega
  have hz' : w'.heap[z]? = some (.cells #[.slice Ad n cc] 106 (0, 0)) := (r4 z hzW hzo).trans h3
  have hlt' := Lay.own_lt r2
  refine ⟨Ad, n, cc, A', _, c', w', h3, r1, hz', ⟨hw _ (by omega) (fun e => by have := hlt _ e; omega) (by omega), hw _ (by omega) (fun e => by have := hlt _ e; omega) (by omega)⟩, fun j hj => hw j (hqs j hj) (fun e => h5 j e hj) (hI.hq j hj).1, ?_⟩
  refine ⟨Ext.setCell (p := ⟨z, 0, none⟩) (Below.trans hI.x (r3 _ (by have := hI.x.lt; omega))) hwz _, by have := hI.s; simp; omega, hI.hq, A', (pre.map (·.1)).length + 1, c', by simp, ?_, ?_, ?_, fun j hj hq => ?_⟩
  · obtain ⟨A9, c9, e9, h9, _⟩ := Lay.own_row r2
    obtain ⟨_, e2, e3⟩ := Value.slice.inj e9
    rw [e2, e3]; exact h9
  · rw [heap_setCell_same _ z 0 _ 106 _ hz']; rfl
  · rw [List.map_append]
    exact Lay.own_keep r2 (by simp) fun j hj _ => heap_setCell_other _ ⟨z, 0, none⟩ j _ (by
      rcases hj with hj | hj
      · show j ≠ z; omega
      · have := hlt' j hj; show j ≠ z; omega)
  · rcases r6 j hj with h6 | h6
    · exact h5 j h6 hq
    · have := hqs j hq; omega
set_option maxHeartbeats 4000000 in
set_option maxRecDepth 100000 in
theorem appseq_any (P : Nat → Prop) (w : World) (b : Bk) (zb : Nat) (A : Option Addr) (N c : Nat) (hb : BkI b) (hB : w.heap[zb]? = some (.cells #[.int .i64 b.ms, .int .i64 b.ht, .slice A N c] 27 (0, 0))) (hr : kSe.row w P A N b.secs) (hL : EnvW w) :
    Calls Tryz.prog 139 #[.slice none 0 0, .func (.func 126) #[] #[.pointer (some ⟨zb, 0, none⟩)]] w (ClPost w b) := by
  refine (callsIn_wide (n := 5)).1 ?_
  refine callsIn_of_wp_marks Tryz.func139 rfl trivial ?_ rfl
  simp only [Tryz.ntmps139, List.size_toArray, List.length_cons, List.length_nil, Nat.reduceAdd, Nat.reduceSub, Array.replicate_succ, Array.replicate_zero, List.push_toArray, List.append_toArray, List.nil_append, List.cons_append]
  refine wpIn_wide.2 ?_
  go_wp2_with fail
  obtain ⟨wl, hwl⟩ : ∃ wl, w.alloc (.cells #[.slice none 0 0] 106) = wl := ⟨_, rfl⟩
  obtain ⟨z, hz⟩ : ∃ z, w.heap.size = z := ⟨_, rfl⟩
  rw [hwl, hz]
  have hsz : wl.heap.size = z + 1 := by rw [← hwl, ← hz]; simp
  have hxl : Ext w wl := by rw [← hwl]; exact (Ext.refl w).alloc _
  have hZ : wl.heap[z]? = some (.cells #[.slice none 0 0] 106 (0, 0)) := by rw [← hwl, ← hz]; exact heap_alloc_at _ _ _ _ rfl
  have hzl := lt_of_block hB
  have HSEQ := all1_seq 4 wl b zb A N c (fun j => j < w.heap.size) hb (fun j hj => by omega) hL.lt4 hzl ((hxl.block _ hzl).trans hB) (Lay.row_ext (Lay.row_mono (Q := fun j => j < w.heap.size) hr fun j _ hl => hl) hxl) (hL.ext hxl)
  have HNP := Lib.hid hb.np
  clear hwl hzl hB hr hL hb
  refine (wpIn_wide (n := 5)).1 ?_
  refine rangeH (n := 5) rfl (by omega) (gf := 126) (lb := #[.pointer (some ⟨zb, 0, none⟩)]) rfl trivial (enters_of Tryz.func126 (by kernel_rfl) rfl) HSEQ (fun x => rfl) (fun _ _ _ _ _ => pgRp_put) (ClI w wl.heap.size z) (fun _ _ _ _ => False) (ClI.ab (by omega) (by omega)) (fun _ _ _ _ _ _ h => h.elim)
    (fun s q W o' h => h.put (by omega) (by omega) (.inl rfl)) (fun cc s q W o' h => h) (fun j hj => by omega) (fun s q W h j hj => (h.hq j hj).2) (fun W hx hs => ⟨hxl.trans hx, by omega, fun j hj => by omega, none, 0, 0, rfl, Nat.le_refl _, (hx.block _ (by omega)).trans hZ, Lay.own_nil _ _ _ _ _, fun j hj => by cases hj⟩)
    (ClAx wl.heap.size z zb) (fun _ _ _ _ _ h => ?ap) (fun q x W W' h hx => pgRp_ext h hx) ?assign ?body ?done ?stop
  case ap =>
    obtain ⟨Bx, h1, h2, h3⟩ := h
    exact ⟨Bx, h1, (World.putObj_heap_other (by omega)).trans h2, h3⟩
  case assign =>
    rintro l ⟨pg, ⟨A7, n7, c7⟩, ⟨A8, n8, c8⟩⟩ q W K hrp hlen hqs hK
    dsimp only [pgEnc]
    gi_wp2
    exact hK _ _ ((Ext.refl W).alloc _) ⟨W.heap.size, by omega, heap_alloc_at _ _ _ _ rfl, rfl⟩
  case body =>
    rintro pre x q a' W hI hrp ⟨Bx, hBx, hB, rfl⟩ hqs hlen hsp
    have hpl : pre.length < 10000000 := by
      have h1 := hsp.length_le
      have h2 := HNP.out
      simp only [List.length_map, List.length_append, List.length_cons, List.length_nil] at h1
      omega
    obtain ⟨Ad, n, cc, A', n', c', w', hz1, hrun, hz2, hfin⟩ := cl_app (by omega) (by omega) hI hrp hqs hlen hpl
    obtain ⟨pg, ⟨A7, n7, c7⟩, ⟨A8, n8, c8⟩⟩ := x
    dsimp only [pgCells] at hB hrun hfin ⊢
    have c0 := cell_of hB (i := 0) (u := .int .i64 pg.num) rfl
    have c1 := cell_of hB (i := 1) (u := .int .i64 pg.suf) rfl
    have c2 := cell_of hB (i := 2) (u := .int .i64 pg.ent) rfl
    have c3 := cell_of hB (i := 3) (u := .int .i64 pg.ver) rfl
    have c4 := cell_of hB (i := 4) (u := .slice A7 n7 c7) rfl
    have c5 := cell_of hB (i := 5) (u := .slice A8 n8 c8) rfl
    have s0 := cell_of hz1 (i := 0) (u := .slice Ad n cc) rfl
    have s1 := cell_of hz2 (i := 0) (u := .slice Ad n cc) rfl
    have s2 := frozen_of hz2 0
    have HRUN := Lib.hid hrun
    have HFIN := Lib.hid hfin
    clear hI hrp hqs hB hrun hfin hz1 hz2 HSEQ hsp
    gi_wp2_with (gi_at_builtin; refine wpListIn_append_run (s := .tmp 8) (x := .tmp 10) HRUN.out rfl rfl rfl rfl rfl ?_)
    exact HFIN.out
  case done =>
    intro xs q W hS hI hK
    obtain ⟨Ad, n, cc, hn, hnc, hz1, ho, _⟩ := hI.v
    have s0 := cell_of hz1 (i := 0) (u := .slice Ad n cc) rfl
    have HI := Lib.hid hI
    have HK := Lib.hid hK
    have HO := Lib.hid ho
    have HS := Lib.hid hS
    have HN := Lib.hid (And.intro hn hnc)
    clear hI hK HSEQ ho hS hn hnc hz1
    gi_wp2
    go_wp2_with fail
    obtain ⟨Z, hZ⟩ : ∃ Z, W.putObj wl.heap.size (.deferred none) = Z := ⟨_, rfl⟩
    have hlt := Lay.own_lt HO.out
    have hxZ : Ext w Z := by rw [← hZ]; exact HI.out.x.putObj (by omega) _
    have hoZ : kPg.own 84 Z (wl.heap.size + 3) (fun j => wl.heap.size + 3 ≤ j) (.slice Ad n cc) (xs.map (·.1)) := by
      rw [← hZ]
      exact Lay.own_keep HO.out (by simp) fun j hj _ => World.putObj_heap_other (by
        rcases hj with hj | hj
        · omega
        · have := hlt j hj; omega)
    refine ⟨by simp, .inl ⟨_, _, rfl, run_takeDeferred HK.out, ?_⟩⟩
    rw [hZ]
    refine ⟨.slice Ad n cc, by simp [results, Tryz.results139, go_sem], Ad, n, cc, rfl, HN.out.2, ?_, ?_, hxZ⟩
    · have h1 := HNP.out
      rw [← HS.out, List.length_map] at h1
      have := HN.out.1
      omega
    · obtain ⟨A9, c9, e9, _, h9⟩ := Lay.own_row hoZ
      obtain ⟨e1, e2, _⟩ := Value.slice.inj e9
      rw [← e1, ← e2, HS.out] at h9
      exact Lay.row_mono h9 fun j hj _ => by
        rcases hj with hj | hj
        · omega
        · have := hlt j hj; omega
  case stop =>
    intro cc pre q W hS hX hK
    exact hX.elim
set_option maxHeartbeats 4000000 in
set_option maxRecDepth 100000 in
theorem collect_any (P : Nat → Prop) (w : World) (b : Bk) (zb : Nat) (A : Option Addr) (N c : Nat) (hb : BkI b) (hB : w.heap[zb]? = some (.cells #[.int .i64 b.ms, .int .i64 b.ht, .slice A N c] 27 (0, 0))) (hr : kSe.row w P A N b.secs) (hL : EnvW w) :
    Calls Tryz.prog 109 #[.func (.func 126) #[] #[.pointer (some ⟨zb, 0, none⟩)]] w (ClPost w b) := by
  have HA := Lib.hid (appseq_any P w b zb A N c hb hB hr hL)
  clear hb hB hr hL
  go_enter Tryz.func109, Tryz.ntmps109
  go_wp2_with (first | (go_at_call 139; refine (HA.out).mono ?_; rintro e w1 ⟨A1, n1, c1, rfl, h1⟩))
  go_ret
  exact ⟨A1, n1, c1, rfl, h1⟩
set_option maxHeartbeats 4000000 in
set_option maxRecDepth 100000 in
theorem pages_any (P : Nat → Prop) (w : World) (b : Bk) (A : Option Addr) (N c : Nat) (hb : BkI b) (hr : kSe.row w P A N b.secs) (hL : EnvW w) :
    Calls Tryz.prog 55 #[.agg #[.int .i64 b.ms, .int .i64 b.ht, .slice A N c]] w (ClPost w b) := by
  obtain ⟨W0, hW0⟩ : ∃ W0, w.alloc (.cells #[.int .i64 b.ms, .int .i64 b.ht, .slice A N c] 27) = W0 := ⟨_, rfl⟩
  have hx0 : Ext w W0 := by rw [← hW0]; exact (Ext.refl w).alloc _
  have hx1 : Ext w (W0.alloc (.cells #[.int .i64 b.ms, .int .i64 b.ht, .slice A N c] 27)) := hx0.alloc _
  have HA := Lib.hid (collect_any P (W0.alloc (.cells #[.int .i64 b.ms, .int .i64 b.ht, .slice A N c] 27)) b W0.heap.size A N c hb (heap_alloc_at _ _ _ _ rfl) (Lay.row_ext hr hx1) (hL.ext hx1))
  have a0 : W0.cell? ⟨w.heap.size, 0, none⟩ = some (.int .i64 b.ms) := by rw [← hW0]; exact cell_of (heap_alloc_at w _ _ _ rfl) (i := 0) rfl
  have a1 : W0.cell? ⟨w.heap.size, 1, none⟩ = some (.int .i64 b.ht) := by rw [← hW0]; exact cell_of (heap_alloc_at w _ _ _ rfl) (i := 1) rfl
  have a2 : W0.cell? ⟨w.heap.size, 2, none⟩ = some (.slice A N c) := by rw [← hW0]; exact cell_of (heap_alloc_at w _ _ _ rfl) (i := 2) rfl
  have HX1 := Lib.hid hx1
  clear hb hr hL hx0 hx1
  go_enter Tryz.func55, Tryz.ntmps55
  go_upto_region 1 with (fail)
  clear hW0
  go_wp2_with (first | (go_at_call 73; refine (all_any _ _ _ _ _ _).mono ?_; rintro e w' ⟨rfl, rfl⟩) | (go_at_call 109; refine (HA.out).mono ?_; rintro e w1 ⟨A1, n1, c1, rfl, h1, h2, h3, h4⟩))
  go_ret
  exact ⟨A1, n1, c1, rfl, h1, h2, Lay.row_mono h3 fun j hj _ => Nat.le_trans HX1.out.lt hj, HX1.out.trans h4⟩
end Go.Proofs.YtdbnddmncbjobaaGreatDoor

/- book.wrong, book.fits: walked. -/
namespace Go.Proofs.YtdbnddmncbjobaaGreatDoor
open Go Go.RowKit

theorem OkT.wn {t : Tx} (h : OkT t) : 1 ≤ wordsN (t.paras ++ t.notes) ∧ wordsN (t.paras ++ t.notes) ≤ 1000000 := by
  have hle : ∀ (B : Nat) (l : List (List Wd)), (∀ p ∈ l, p.length ≤ B) → wordsN l ≤ B * l.length := by
    intro B l
    induction l with
    | nil => intro _; simp [wordsN]
    | cons p l ih =>
      intro hl
      have h1 := hl p (by simp)
      have h2 := ih fun q hq => hl q (by simp [hq])
      simp only [wordsN, List.map_cons, List.sum_cons, List.length_cons, Nat.mul_succ] at h2 ⊢
      omega
  have hap : wordsN (t.paras ++ t.notes) = wordsN t.paras + wordsN t.notes := by simp [wordsN]
  have h1 := hle 40 t.paras fun p hp => (h.par.len p hp).2
  have h2 := hle 12 t.notes fun p hp => (h.len p hp).2
  have h3 := h.np
  have h4 := h.nn
  refine ⟨?_, by omega⟩
  cases hp : t.paras with
  | nil => rw [hp] at h3; simp at h3
  | cons p r =>
    have := (h.par.len p (by rw [hp]; simp)).1
    simp only [wordsN, List.cons_append, List.map_cons, List.sum_cons]
    omega
set_option maxHeartbeats 4000000 in
set_option maxRecDepth 100000 in
theorem wrong_ok (P : Nat → Prop) (w : World) (m h : Int) (B : Option Addr) (N k : Nat) (t : Tx) (A A' : Option Addr) (n n' c c' : Nat) (h1 : kWs.row w P A n t.paras) (h2 : kWs.row w P A' n' t.notes) (hT : OkT t) (hm0 : 500 ≤ m) (hm : m ≤ 2000) (hh0 : 4 ≤ h) (hh : h ≤ 100) (hL : EnvW w) :
    Calls Tryz.prog 83 #[.agg #[.int .i64 m, .int .i64 h, .slice B N k], .agg #[.slice A n c, .slice A' n' c']] w (fun e w' => e = .returned (.int .i64 0) ∧ Ext w w') := by
  have HPT := Lib.hid (fun X (hX : Ext w X) => ptext_any P X t m h A A' n n' c c' (Lay.row_ext h1 hX) (Lay.row_ext h2 hX) (txP_of hT hm0 hm hh0 hh) hm0 hm (hL.ext hX))
  have HCO := Lib.hid (fun X (hX : Ext w X) => count_any P X A A' n n' c c' t (Lay.row_ext h1 hX) (Lay.row_ext h2 hX) (by have := hT.np; omega) (by have := hT.nn; omega) hT.wn.2)
  have hw1 := hT.wn.1
  obtain ⟨q, hq⟩ : ∃ q, wordsN (t.paras ++ t.notes) = q := ⟨_, rfl⟩
  rw [hq] at hw1 HCO
  clear h1 h2 hT hL hq
  have hq0 : ((q : Int) == 0) = false := by simp; omega
  go_enter Tryz.func83, Tryz.ntmps83
  go_upto_region 1 with (fail)
  obtain ⟨W0, hW0⟩ : ∃ W0, (w.alloc (.cells #[.int .i64 m, .int .i64 h, .slice B N k] 27)).alloc (.cells #[.slice A n c, .slice A' n' c'] 53) = W0 := ⟨_, rfl⟩
  obtain ⟨z, hz⟩ : ∃ z, w.heap.size = z := ⟨_, rfl⟩
  have hx0 : Ext w W0 := by rw [← hW0]; exact ((Ext.refl w).alloc _).alloc _
  have hB1 : W0.heap[z]? = some (.cells #[.int .i64 m, .int .i64 h, .slice B N k] 27 (0, 0)) := by rw [← hW0, ← hz, heap_alloc_old _ _ _ (by simp)]; exact heap_alloc_at _ _ _ _ rfl
  have hB2 : W0.heap[z + 1]? = some (.cells #[.slice A n c, .slice A' n' c'] 53 (0, 0)) := by rw [← hW0, ← hz]; exact heap_alloc_at _ _ _ _ (by simp)
  rw [hW0, hz]
  have a0 := cell_of hB1 (i := 0) (u := .int .i64 m) rfl
  have a1 := cell_of hB1 (i := 1) (u := .int .i64 h) rfl
  have b0 := cell_of hB2 (i := 0) (u := .slice A n c) rfl
  have b1 := cell_of hB2 (i := 1) (u := .slice A' n' c') rfl
  have HX0 := Lib.hid hx0
  have HB2 := Lib.hid hB2
  clear hW0 hz hx0 hB1 hB2
  go_upto_region 2 with (first | (go_at_call 127; refine (HPT.out _ HX0.out).mono ?_; rintro e w1 ⟨A1, c1, rfl, _, hx1⟩))
  have hB2 := (hx1.block _ (lt_of_block HB2.out)).trans HB2.out
  have b0 := cell_of hB2 (i := 0) (u := .slice A n c) rfl
  have b1 := cell_of hB2 (i := 1) (u := .slice A' n' c') rfl
  have HX1 := Lib.hid (HX0.out.trans hx1)
  clear hx1 hB2 a0 a1 HPT
  go_wp2_with (first | (go_at_call 31; refine (HCO.out _ HX1.out).mono ?_; rintro e w2 ⟨rfl, hx2⟩))
  go_ret
  exact ⟨rfl, HX1.out.trans hx2⟩
def FitPost (w : World) (m h : Int) (A : Option Addr) (N c np : Nat) (e : Ending) (w' : World) : Prop :=
  Ext w w' ∧ ((np ≤ 16384 ∧ e = .returned (.tuple #[.agg #[.int .i64 m, .int .i64 h, .slice A N c], .int .i64 0])) ∨ (16384 < np ∧ e = .returned (.tuple #[.agg #[.int .i64 0, .int .i64 0, .slice none 0 0], .int .i64 2])))
/-- The result of three cells is stored. -/
theorem st3 {W : World} {z : Nat} {a0 a1 a2 : Value} (h : W.heap[z]? = some (.cells #[a0, a1, a2] 27 (0, 0))) (v0 v1 v2 : Value) :
    (((W.setCell ⟨z, 0, none⟩ v0).setCell ⟨z, 1, none⟩ v1).setCell ⟨z, 2, none⟩ v2).heap[z]? = some (.cells #[v0, v1, v2] 27 (0, 0)) :=
  heap_setCell_same _ z 2 _ 27 _ (heap_setCell_same _ z 1 _ 27 _ (heap_setCell_same _ z 0 _ 27 _ h))
theorem ext3 {a W : World} (h : Ext a W) {z : Nat} (hz : a.heap.size ≤ z) (v0 v1 v2 : Value) : Ext a (((W.setCell ⟨z, 0, none⟩ v0).setCell ⟨z, 1, none⟩ v1).setCell ⟨z, 2, none⟩ v2) :=
  ((h.setCell (p := ⟨z, 0, none⟩) hz v0).setCell (p := ⟨z, 1, none⟩) hz v1).setCell (p := ⟨z, 2, none⟩) hz v2
set_option maxHeartbeats 4000000 in
set_option maxRecDepth 100000 in
theorem bfits_any (P : Nat → Prop) (w : World) (b : Bk) (A : Option Addr) (N c : Nat) (hb : BkI b) (hr : kSe.row w P A N b.secs) (hL : EnvW w) :
    Calls Tryz.prog 85 #[.agg #[.int .i64 b.ms, .int .i64 b.ht, .slice A N c]] w (FitPost w b.ms b.ht A N c (pagesB b).length) := by
  have HPG := Lib.hid (fun X (hX : Ext w X) => pages_any P X b A N c hb (Lay.row_ext hr hX) (hL.ext hX))
  clear hb hr hL
  go_enter Tryz.func85, Tryz.ntmps85
  go_upto_region 1 with (fail)
  obtain ⟨W0, hW0⟩ : ∃ W0, (w.alloc (.cells #[.int .i64 b.ms, .int .i64 b.ht, .slice A N c] 27)).alloc (.cells #[.int .i64 0, .int .i64 0, .slice none 0 0] 27) = W0 := ⟨_, rfl⟩
  obtain ⟨z, hz⟩ : ∃ z, w.heap.size = z := ⟨_, rfl⟩
  have hx0 : Ext w W0 := by rw [← hW0]; exact ((Ext.refl w).alloc _).alloc _
  have hB1 : W0.heap[z]? = some (.cells #[.int .i64 b.ms, .int .i64 b.ht, .slice A N c] 27 (0, 0)) := by rw [← hW0, ← hz, heap_alloc_old _ _ _ (by simp)]; exact heap_alloc_at _ _ _ _ rfl
  have hB2 : W0.heap[z + 1]? = some (.cells #[.int .i64 0, .int .i64 0, .slice none 0 0] 27 (0, 0)) := by rw [← hW0, ← hz]; exact heap_alloc_at _ _ _ _ (by simp)
  rw [hW0, hz]
  have a0 := cell_of hB1 (i := 0) (u := .int .i64 b.ms) rfl
  have a1 := cell_of hB1 (i := 1) (u := .int .i64 b.ht) rfl
  have a2 := cell_of hB1 (i := 2) (u := .slice A N c) rfl
  have HX0 := Lib.hid hx0
  have HB := Lib.hid (And.intro hB1 hB2)
  have HZ := Lib.hid hz
  clear hW0 hz hx0 hB1 hB2
  go_upto_if 7 with (first | (go_at_call 55; refine (HPG.out _ HX0.out).mono ?_; rintro e w1 ⟨Ap, np, cp, rfl, hpc, hp6, hrow, hx1⟩))
  have HE := Lib.hid (Lay.row_len hrow)
  have hB2 := (hx1.block _ (lt_of_block HB.out.2)).trans HB.out.2
  have hB1 := (hx1.block _ (lt_of_block HB.out.1)).trans HB.out.1
  have HX1 := Lib.hid (HX0.out.trans hx1)
  have a0 := cell_of hB1 (i := 0) (u := .int .i64 b.ms) rfl
  have a1 := cell_of hB1 (i := 1) (u := .int .i64 b.ht) rfl
  have a2 := cell_of hB1 (i := 2) (u := .slice A N c) rfl
  have r0 := cell_of hB2 (i := 0) (u := .int .i64 0) rfl
  have r1 := cell_of hB2 (i := 1) (u := .int .i64 0) rfl
  have r2 := cell_of hB2 (i := 2) (u := .slice none 0 0) rfl
  have f0 := frozen_of hB2 0
  have f1 := frozen_of hB2 1
  have f2 := frozen_of hB2 2
  have HB2 := Lib.hid hB2
  clear hrow hx1 hB1 hB2 hpc HX0 HB HPG
  by_cases hc : 16384 < np
  · have hcI : (16384 : Int) < (np : Int) := by omega
    go_wp2_with fail
    have hs := st3 HB2.out (.int .i64 0) (.int .i64 0) (.slice none 0 0)
    have q0 := cell_of hs (i := 0) rfl
    have q1 := cell_of hs (i := 1) rfl
    have q2 := cell_of hs (i := 2) rfl
    refine bodyPost_ret (v := .tuple #[.agg #[.int .i64 0, .int .i64 0, .slice none 0 0], .int .i64 2]) (by simp [results, Tryz.results85, go_sem, q0, q1, q2]) rfl ?_
    exact ⟨ext3 HX1.out (by have := HZ.out; omega) _ _ _, .inr ⟨by have := HE.out; omega, rfl⟩⟩
  · have hcI : ¬ (16384 : Int) < (np : Int) := by omega
    go_wp2_with fail
    have hs := st3 HB2.out (.int .i64 b.ms) (.int .i64 b.ht) (.slice A N c)
    have q0 := cell_of hs (i := 0) rfl
    have q1 := cell_of hs (i := 1) rfl
    have q2 := cell_of hs (i := 2) rfl
    refine bodyPost_ret (v := .tuple #[.agg #[.int .i64 b.ms, .int .i64 b.ht, .slice A N c], .int .i64 0]) (by simp [results, Tryz.results85, go_sem, q0, q1, q2]) rfl ?_
    exact ⟨ext3 HX1.out (by have := HZ.out; omega) _ _ _, .inl ⟨by have := HE.out; omega, rfl⟩⟩
end Go.Proofs.YtdbnddmncbjobaaGreatDoor

/- What is added, corrected, struck and frozen, in plain Lean: the books of CiteKeeps. -/
namespace Go.Proofs.YtdbnddmncbjobaaGreatDoor

def addP (b : Bk) (e v : Int) (t : Tx) : Bk := { b with secs := b.secs ++ [⟨e, false, [v], [t]⟩] }
def corS (x : Se) (v : Int) (t : Tx) : Se := { x with vers := x.vers ++ [v], texts := x.texts ++ [t] }
def corP (b : Bk) (i : Nat) (x : Se) (v : Int) (t : Tx) : Bk := { b with secs := b.secs.set i (corS x v t) }
theorem set_split {γ : Type} {l : List γ} {i : Nat} {x : γ} (h : l[i]? = some x) (y : γ) : l = l.take i ++ x :: l.drop (i + 1) ∧ l.set i y = l.take i ++ y :: l.drop (i + 1) := by
  obtain ⟨hi, rfl⟩ := List.getElem?_eq_some_iff.1 h
  refine ⟨?_, ?_⟩
  · rw [← List.drop_eq_getElem_cons hi, List.take_append_drop]
  · rw [List.set_eq_take_append_cons_drop, if_pos hi]
theorem OkB.add {b : Bk} {N V : Nat} (h : OkB b N V) (hV : 1 ≤ V) {e : Int} (v : Int) {t : Tx} (ht : OkT t) (hn : ∀ y ∈ b.secs, y.ent ≠ e) : OkB (addP b e v t) (N + 1) V := by
  refine ⟨h.m0, h.m1, h.h0, h.h1, by have := h.n; simp [addP]; omega, fun x hx => ?_, fun x hx => ?_, ?_⟩
  · simp only [addP, List.mem_append, List.mem_singleton] at hx
    rcases hx with hx | rfl
    · exact h.vs x hx
    · exact ⟨rfl, by simp, hV⟩
  · simp only [addP, List.mem_append, List.mem_singleton] at hx
    rcases hx with hx | rfl
    · exact h.tx x hx
    · intro u hu
      simp only [List.mem_singleton] at hu
      subst hu; exact ht
  · simp only [addP, List.map_append, List.map_cons, List.map_nil]
    rw [List.nodup_append]
    refine ⟨h.ent, by simp, fun a ha b' hb => ?_⟩
    obtain ⟨y, hy, rfl⟩ := List.mem_map.1 ha
    simp only [List.mem_singleton] at hb
    subst hb
    exact hn y hy
theorem OkB.cor {b : Bk} {N V : Nat} (h : OkB b N V) {i : Nat} {x : Se} (hx : b.secs[i]? = some x) (v : Int) {t : Tx} (ht : OkT t) : OkB (corP b i x v t) N (V + 1) := by
  obtain ⟨h1, h2⟩ := set_split hx (corS x v t)
  have hxm := List.mem_of_getElem? hx
  have hmem : ∀ y ∈ (corP b i x v t).secs, y ∈ b.secs ∨ y = corS x v t := fun y hy => by
    simp only [corP] at hy
    rcases List.mem_or_eq_of_mem_set hy with hy | hy
    · exact .inl hy
    · exact .inr hy
  refine ⟨h.m0, h.m1, h.h0, h.h1, by simp [corP]; exact h.n, fun y hy => ?_, fun y hy => ?_, ?_⟩
  · rcases hmem y hy with hy | rfl
    · have := h.vs y hy; exact ⟨this.1, this.2.1, by omega⟩
    · have := h.vs x hxm
      simp only [corS, List.length_append, List.length_cons, List.length_nil]
      exact ⟨by omega, by simp, by omega⟩
  · rcases hmem y hy with hy | rfl
    · exact h.tx y hy
    · intro u hu
      simp only [corS, List.mem_append, List.mem_singleton] at hu
      rcases hu with hu | rfl
      · exact h.tx x hxm u hu
      · exact ht
  · have e1 : (corP b i x v t).secs.map (·.ent) = b.secs.map (·.ent) := by
      simp only [corP]
      rw [h2]
      conv => rhs; rw [h1]
      simp [corS]
    rw [e1]; exact h.ent
/-- The books that operations on a frozen one make. -/
structure KpS (b0 : Bk) (e v : Int) (i : Nat) (b : Bk) : Prop where
  ok : OkB b (4 + i) (3 + i)
  kp : Keeps b0 b e v
  fz : frzIn b e = true
  fa : ∀ x ∈ b.secs, x.ent = e → x.fz = true
theorem KpS.succ {b0 b : Bk} {e v : Int} {i : Nat} (h : KpS b0 e v i b) : KpS b0 e v (i + 1) b := ⟨h.ok.big (by omega) (by omega), h.kp, h.fz, h.fa⟩
theorem OkT.pgs {b : Bk} {N V : Nat} (h : OkB b N V) {t : Tx} (ht : OkT t) : (textP t b.ms b.ht).2 ≠ [] ∧ (textP t b.ms b.ht).2.length ≤ 200 := by
  have := textP_ok ht h.m0 h.m1 h.h0 h.h1
  exact ⟨this.2.1, this.2.2.1⟩
theorem KpS.add {b0 b : Bk} {e v : Int} {i : Nat} (h : KpS b0 e v i b) {e' : Int} (v' : Int) {t : Tx} (ht : OkT t) (hn : ∀ y ∈ b.secs, y.ent ≠ e') : KpS b0 e v (i + 1) (addP b e' v' t) := by
  have h1 := (h.ok.big (N' := 4 + i) (V' := 3 + (i + 1)) (by omega) (by omega)).add (by omega) v' ht hn
  refine ⟨by rw [show 4 + (i + 1) = 4 + i + 1 by omega]; exact h1, h.kp.trans (keeps_add h.ok.okK e v ⟨e', false, [v'], [t]⟩ ⟨200, fun u hu => ?_⟩ ⟨by simp, rfl⟩ hn), ?_, fun x hx he => ?_⟩
  · simp only [List.mem_singleton] at hu
    subst hu
    exact OkT.pgs h.ok ht
  · have := h.fz
    unfold frzIn at this ⊢
    simp only [addP, List.any_append, this, Bool.true_or]
  · simp only [addP, List.mem_append, List.mem_singleton] at hx
    rcases hx with hx | rfl
    · exact h.fa x hx he
    · exfalso
      have h2 := h.fz
      unfold frzIn at h2
      rw [List.any_eq_true] at h2
      obtain ⟨y, hy, h3⟩ := h2
      simp only [Bool.and_eq_true, beq_iff_eq] at h3
      exact hn y hy (h3.1.trans he.symm)
theorem KpS.cor {b0 b : Bk} {e v : Int} {i : Nat} (h : KpS b0 e v i b) {k : Nat} {x : Se} (hx : b.secs[k]? = some x) (he : x.ent = e) {v' : Int} {t : Tx} (ht : OkT t) (hv : v' ∉ x.vers) : KpS b0 e v (i + 1) (corP b k x v' t) := by
  have h1 := (h.ok.big (N' := 4 + (i + 1)) (V' := 3 + i) (by omega) (by omega)).cor hx v' ht
  obtain ⟨s1, s2⟩ := set_split hx (corS x v' t)
  have hk := keeps_correct h.ok.okK e v v' t _ _ x s1 (OkT.pgs h.ok ht).1 he hv
  have hxm := List.mem_of_getElem? hx
  refine ⟨by rw [show 3 + (i + 1) = 3 + i + 1 by omega]; exact h1, h.kp.trans ?_, ?_, fun y hy he' => ?_⟩
  · unfold corP
    rw [s2]
    exact hk
  · unfold frzIn
    rw [List.any_eq_true]
    refine ⟨corS x v' t, ?_, ?_⟩
    · simp only [corP]; rw [s2]; simp
    · simp only [corS, he, h.fa x hxm he, beq_self_eq_true, Bool.and_self]
  · simp only [corP] at hy
    rcases List.mem_or_eq_of_mem_set hy with hy | rfl
    · exact h.fa y hy he'
    · exact h.fa x hxm he
theorem KpS.frz {b0 b : Bk} {e v : Int} {i : Nat} (h : KpS b0 e v i b) : KpS b0 e v (i + 1) (frzP b) := by
  refine ⟨h.ok.frz.big (by omega) (by omega), h.kp.trans (keeps_freeze h.ok.okK e v), frzIn_frz b e h.fz, fun x hx _ => frzP_all b x hx⟩
theorem KpS.start {b : Bk} (h : OkB b 4 3) (hf : ∀ x ∈ b.secs, x.fz = true) {br e v wd : Int} {y : Int × Int × Nat} (ho : ofP b br e v wd = some y) : KpS b e v 0 b := by
  refine ⟨h, Keeps.refl h.okK e v, ?_, fun x hx _ => hf x hx⟩
  unfold ofP at ho
  split at ho
  · cases ho
  · next hc => simp only [not_or] at hc; simpa using hc.2.2
/-- What was cited is cited so, and leads where it led. -/
theorem KpS.of {b0 b : Bk} {e v : Int} {i : Nat} (h : KpS b0 e v i b) {wd n s : Int} {k : Nat} (ho : ofP b0 0 e v wd = some (n, s, k)) : ofP b 0 e v wd = some (n, s, k) := by
  have h1 : whereP b0 e v wd = some (n, s, k) := by
    unfold ofP at ho
    split at ho
    · cases ho
    · exact ho
  unfold ofP
  rw [if_neg (by rw [h.fz]; simp)]
  exact h.kp.place wd _ h1
theorem KpS.find {b0 b : Bk} {e v : Int} {i : Nat} (h : KpS b0 e v i b) {n s line : Int} {p : Pg} {x : Ln} (hc : citP b0 n s line = some (p, x)) : citP b n s line = some (p, x) := by
  unfold citP at hc ⊢
  cases hp : pageP b0 n s with
  | none => rw [hp] at hc; cases hc
  | some q =>
    rw [hp] at hc
    rw [h.kp.page n s q hp]
    exact hc
end Go.Proofs.YtdbnddmncbjobaaGreatDoor
