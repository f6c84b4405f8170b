/- rollbookref28.Book: walked. -/
import Derived.Test.YtdbnddmncbjobaaGreatDoorMd
import Derived.Test.YtdbnddmncbjobaaGreatDoorMf
import Derived.StillTailTactics
import Derived.Test.YtdbnddmncbjobaaGreatDoorMe
import Derived.Test.YtdbnddmncbjobaaGreatDoorMb
import Derived.Maps.RangeWalk
namespace Go.Proofs.YtdbnddmncbjobaaGreatDoor
open Go Go.RowKit

/-- The section k of a generated book of which fr sections are frozen. -/
structure SecOk (fr k : Nat) (x : Se) : Prop where
  ent : 2 * (k : Int) ≤ x.ent ∧ x.ent ≤ 2 * (k : Int) + 1
  fz : x.fz = decide (k < fr)
  vs : ∃ m : Nat, m ≤ 2 ∧ (m ≠ 0 → k < fr) ∧ x.vers = (10 - (k : Int)) :: (List.range m).map (fun (j : Nat) => 30 + 7 * (k : Int) - 3 * (j : Int)) ∧ x.texts.length = m + 1
  tx : ∀ t ∈ x.texts, OkT t
theorem own_new {β : Type} {k : Lay β} {X : World} {base : Nat} {P : Nat → Prop} {x : β} {cs : Array Value} {e : TypeId} (hb : base ≤ X.heap.size) (hr : k.rep X (fun j => P j ∧ j ≠ X.heap.size) x cs.toList) :
    k.own e (X.alloc (.cells cs e)) base P (.slice (some ⟨X.heap.size, 0, none⟩) 1 1) [x] := by
  obtain ⟨d0, hd0⟩ : ∃ d0 : Cs k.sz, ccf d0 = cs.toList := ⟨⟨cs.toList, k.len hr, k.one hr⟩, rfl⟩
  have hsz : cs.size = k.sz := by have := k.len hr; simpa using this
  refine ⟨[d0], ?_, rfl, fun i d y hd hy => ?_⟩
  · unfold OL
    have hg : gcells ccf [d0] = cs.toList := by simp [gcells, hd0]
    rw [hg]
    refine ⟨by simp [hsz], .inr ⟨X.heap.size, 1, cs, rfl, hb, heap_alloc_new X _, by simp, by simp [maxLen], by simp [hsz], ?_⟩⟩
    rw [List.length_singleton, Nat.one_mul, ← hsz]
    exact List.take_of_length_le (by simp)
  · cases i with
    | zero =>
      injection hd with hd
      injection hy with hy
      subst hd hy
      have h9 : k.rep X (fun j => P j ∧ j ≠ X.heap.size) x (ccf d0) := by rw [hd0]; exact hr
      exact k.ext (k.mono h9 fun j hj _ => ⟨hj.1, fun e => hj.2 (by have : some X.heap.size = some j := e; injection this with this; exact this.symm)⟩) ((Ext.refl X).alloc _)
    | succ i => cases hd
/-- Between two rounds of the outer loop: so many sections. -/
structure BgS (w : World) (ms ht : Int) (fr : Nat) (secs : List Se) (vS : Value) (W : World) : Prop where
  x : Ext w W
  r : W.heap[w.heap.size]? = some (.cells #[.int .i64 0, .int .i64 0, .slice none 0 0] 27 (0, 0))
  b : W.heap[w.heap.size + 1]? = some (.cells #[.int .i64 ms, .int .i64 ht, vS] 27 (0, 0))
  own : kSe.own 46 W (w.heap.size + 2) (fun j => w.heap.size + 2 ≤ j) vS secs
  ok : ∀ (k : Nat) (x : Se), secs[k]? = some x → SecOk fr k x
theorem BgS.size {w : World} {ms ht : Int} {fr : Nat} {secs : List Se} {vS : Value} {W : World} (h : BgS w ms ht fr secs vS W) : w.heap.size + 2 ≤ W.heap.size := lt_of_block h.b
theorem BgS.ext {w : World} {ms ht : Int} {fr : Nat} {secs : List Se} {vS : Value} {W W' : World} (h : BgS w ms ht fr secs vS W) (hx : Ext W W') : BgS w ms ht fr secs vS W' :=
  ⟨h.x.trans hx, (hx.block _ (lt_of_block h.r)).trans h.r, (hx.block _ (lt_of_block h.b)).trans h.b, Lay.own_ext h.own hx, h.ok⟩
/-- What lies below the section that is being made. -/
structure Low (w : World) (ms ht : Int) (fr : Nat) (secs : List Se) (vS : Value) (Bs : Nat) (W : World) : Prop where
  x : Ext w W
  r : W.heap[w.heap.size]? = some (.cells #[.int .i64 0, .int .i64 0, .slice none 0 0] 27 (0, 0))
  b : W.heap[w.heap.size + 1]? = some (.cells #[.int .i64 ms, .int .i64 ht, vS] 27 (0, 0))
  own : kSe.own 46 W (w.heap.size + 2) (fun j => w.heap.size + 2 ≤ j ∧ j < Bs) vS secs
  ok : ∀ (k : Nat) (x : Se), secs[k]? = some x → SecOk fr k x
  hb : w.heap.size + 2 ≤ Bs
  hS : ∀ j, vS.ownBlock = some j → j < Bs
theorem Low.keep {w : World} {ms ht : Int} {fr : Nat} {secs : List Se} {vS : Value} {Bs : Nat} {W W' : World} (h : Low w ms ht fr secs vS Bs W) (hk : Below Bs W W') : Low w ms ht fr secs vS Bs W' :=
  ⟨Below.trans h.x (hk.mono (by have := h.hb; omega)), (hk.block _ (by have := h.hb; omega)).trans h.r, (hk.block _ (by have := h.hb; omega)).trans h.b, Lay.own_keep h.own hk.size (fun j hj _ => by
    rcases hj with hj | hj
    · exact hk.block j hj.2
    · exact hk.block j (h.hS j hj)), h.ok, h.hb, h.hS⟩
theorem BgS.low {w : World} {ms ht : Int} {fr : Nat} {secs : List Se} {vS : Value} {W : World} (h : BgS w ms ht fr secs vS W) : Low w ms ht fr secs vS W.heap.size W :=
  ⟨h.x, h.r, h.b, Lay.own_mono h.own fun _ hj hl => ⟨hj, hl⟩, h.ok, h.size, fun j hj => (Lay.own_lt h.own j hj).2⟩
/-- A section is being made: its block zs, its versions, its texts. -/
structure InS (w : World) (ms ht : Int) (fr : Nat) (secs : List Se) (vS : Value) (Bs zs : Nat) (ent : Int) (fz : Bool) (vV vT : Value) (vers : List Int) (texts : List Tx) (W : World) : Prop where
  low : Low w ms ht fr secs vS Bs W
  s : W.heap[zs]? = some (.cells #[.int .i64 ent, .bool fz, vV, vT] 46 (0, 0))
  ov : kInt.own 3 W Bs (fun _ => False) vV vers
  ot : kTx.own 53 W Bs (fun j => Bs ≤ j ∧ j ≠ zs ∧ vV.ownBlock ≠ some j) vT texts
  d1 : vV.ownBlock ≠ some zs
  d2 : vT.ownBlock ≠ some zs
  d3 : ∀ j, vV.ownBlock = some j → vT.ownBlock ≠ some j
  hz : Bs ≤ zs
theorem InS.lt {w : World} {ms ht : Int} {fr : Nat} {secs : List Se} {vS : Value} {Bs zs : Nat} {ent : Int} {fz : Bool} {vV vT : Value} {vers : List Int} {texts : List Tx} {W : World} (h : InS w ms ht fr secs vS Bs zs ent fz vV vT vers texts W) : zs < W.heap.size := lt_of_block h.s
theorem InS.ext {w : World} {ms ht : Int} {fr : Nat} {secs : List Se} {vS : Value} {Bs zs : Nat} {ent : Int} {fz : Bool} {vV vT : Value} {vers : List Int} {texts : List Tx} {W W' : World} (h : InS w ms ht fr secs vS Bs zs ent fz vV vT vers texts W) (hx : Ext W W') : InS w ms ht fr secs vS Bs zs ent fz vV vT vers texts W' :=
  ⟨h.low.keep (Below.mono hx (by have := h.lt; have := h.hz; omega)), (hx.block _ h.lt).trans h.s, Lay.own_ext h.ov hx, Lay.own_ext h.ot hx, h.d1, h.d2, h.d3, h.hz⟩
theorem InS.fin {w : World} {ms ht : Int} {fr : Nat} {secs : List Se} {vS : Value} {Bs zs : Nat} {ent : Int} {fz : Bool} {vV vT : Value} {vers : List Int} {texts : List Tx} {W : World} (h : InS w ms ht fr secs vS Bs zs ent fz vV vT vers texts W) (hm : secs.length ≤ 1000) (hok : SecOk fr secs.length ⟨ent, fz, vers, texts⟩) :
    ∃ A' c' w', (Builtin.append_ #[25, 25] 25 #[vS, .slice (some ⟨W.heap.size, 0, none⟩) 1 1]).run Tryz.prog (W.alloc (.cells #[.int .i64 ent, .bool fz, vV, vT] 46)) = .ok (.slice A' (secs.length + 1) c') w' ∧
      w'.heap[w.heap.size + 1]? = some (.cells #[.int .i64 ms, .int .i64 ht, vS] 27 (0, 0)) ∧ BgS w ms ht fr (secs ++ [⟨ent, fz, vers, texts⟩]) (.slice A' (secs.length + 1) c') (w'.setCell ⟨w.heap.size + 1, 2, none⟩ (.slice A' (secs.length + 1) c')) := by
  have hlz := h.lt
  have hzb := h.hz
  have hwb := h.low.hb
  obtain ⟨A1, c1, e1, k1, v1⟩ := own_rowN (Q := fun j => w.heap.size + 2 ≤ j ∧ vS.ownBlock ≠ some j) h.ov (fun j hj => hj.elim) (fun j hj _ => ⟨by omega, fun e => by have := h.low.hS j e; omega⟩)
  obtain ⟨A2, c2, e2, k2, v2⟩ := own_rowN (Q := fun j => w.heap.size + 2 ≤ j ∧ vS.ownBlock ≠ some j) h.ot (fun j hj _ => ⟨by omega, fun e => by have := h.low.hS j e; omega⟩) (fun j hj _ => ⟨by omega, fun e => by have := h.low.hS j e; omega⟩)
  have hoS := Lay.own_mono (P' := fun j => w.heap.size + 2 ≤ j) h.low.own fun j hj _ => hj.1
  have hSl := Lay.own_lt h.low.own
  obtain ⟨A', c', w', r1, r2, r3, r4, r5, r6⟩ := own_app1 (k := kSe) (Pr := Tryz.prog) (t := 25) Tryz.underlying25 info46 rfl (by decide) (by omega) hoS (by omega) (cs := #[.int .i64 ent, .bool fz, vV, vT]) (T := 46) (x := ⟨ent, fz, vers, texts⟩)
    (by rw [e1, e2]; exact kSe_rep.2 ⟨_, _, _, _, _, _, rfl, k1, k2, v1, v2⟩) 1 (by omega)
  have hb1 : w'.heap[w.heap.size + 1]? = some (.cells #[.int .i64 ms, .int .i64 ht, vS] 27 (0, 0)) := (r4 _ (by omega) (fun e => by have := (hSl _ e).1; omega)).trans h.low.b
  have hr1 : w'.heap[w.heap.size]? = _ := (r4 _ (by omega) (fun e => by have := (hSl _ e).1; omega)).trans h.low.r
  refine ⟨A', c', w', r1, hb1, ⟨?_, ?_, heap_setCell_same w' (w.heap.size + 1) 2 _ 27 _ hb1, Lay.own_keep r2 (by simp) ?_, ?_⟩⟩
  · exact Ext.setCell (p := ⟨w.heap.size + 1, 2, none⟩) (Below.trans h.low.x (r3 w.heap.size (by omega))) (by show w.heap.size ≤ w.heap.size + 1; omega) _
  · rw [heap_setCell_other w' ⟨w.heap.size + 1, 2, none⟩ w.heap.size _ (by show w.heap.size ≠ w.heap.size + 1; omega)]; exact hr1
  · intro j hj _
    refine heap_setCell_other w' ⟨w.heap.size + 1, 2, none⟩ j _ ?_
    show j ≠ w.heap.size + 1
    rcases hj with hj | hj
    · omega
    · have := (Lay.own_lt r2 j hj).1; omega
  · intro k x hk
    rw [List.getElem?_append] at hk
    split at hk
    · exact h.low.ok k x hk
    · next hlt =>
      have hk0 : k - secs.length = 0 := by
        have := (List.getElem?_eq_some_iff.1 hk).1
        simp at this; omega
      rw [hk0] at hk
      injection hk with hk
      subst hk
      rw [show k = secs.length by omega]
      exact hok
end Go.Proofs.YtdbnddmncbjobaaGreatDoor

/- The reference's Put: walked. -/
namespace Go.Proofs.YtdbnddmncbjobaaGreatDoor
open Go Go.RowKit
attribute [local go_sem] Oper.semAt_some

theorem put_skip : ∀ {T : Tb} {k : List UInt8} {x : Ct} (i : Nat), (∀ y ∈ T.take i, sLt y.1 k = true) → putP T k x = T.take i ++ putP (T.drop i) k x
  | _, _, _, 0, _ => rfl
  | [], _, _, _ + 1, _ => rfl
  | y :: r, k, x, i + 1, h => by
    have h1 : sLt y.1 k = true := h y (by simp)
    have ih := put_skip (T := r) (k := k) (x := x) i fun z hz => h z (by simp [hz])
    simp only [putP, if_pos h1, List.take_succ_cons, List.drop_succ_cons, List.cons_append, ih]
theorem put_here {T : Tb} {k : List UInt8} {x : Ct} {y : List UInt8 × List Ct} {i : Nat} (h : ∀ y ∈ T.take i, sLt y.1 k = true) (hy : T[i]? = some y) (hn : sLt y.1 k = false) :
    putP T k x = if y.1 = k then T.take i ++ [(k, placeP y.2 x)] ++ T.drop (i + 1) else T.take i ++ [(k, [x])] ++ T.drop i := by
  rw [put_skip i h]
  obtain ⟨hk, rfl⟩ := List.getElem?_eq_some_iff.1 hy
  have e : T.drop i = T[i] :: T.drop (i + 1) := List.drop_eq_getElem_cons hk
  rw [e]
  simp only [putP, hn, Bool.false_eq_true, if_false]
  split <;> simp
theorem put_end {T : Tb} {k : List UInt8} {x : Ct} (h : ∀ y ∈ T, sLt y.1 k = true) : putP T k x = T ++ [(k, [x])] := by
  have := put_skip (T := T) (k := k) (x := x) T.length (by rw [List.take_length]; exact h)
  rw [List.take_length, List.drop_length] at this
  exact this
theorem kIt_rep {W : World} {P : Nat → Prop} {x : List UInt8 × List Ct} {cs : List Value} : kIt.rep W P x cs ↔ ∃ A n c, cs = [.string ⟨x.1.toArray⟩, .slice A n c] ∧ n ≤ c ∧ kCt.row W P A n x.2 := by
  constructor
  · rintro ⟨_, _, rfl, rfl, A, n, c, rfl, h1, h2⟩; exact ⟨A, n, c, rfl, h1, h2⟩
  · rintro ⟨A, n, c, rfl, h1, h2⟩; exact ⟨_, _, rfl, rfl, A, n, c, rfl, h1, h2⟩
theorem kIt_sz : kIt.sz = 2 := rfl
def PuR (w1 : World) (T : Tb) (k : List UInt8) (s7 : Value) (W : World) : Prop := ∃ i : Nat, i ≤ T.length ∧ s7 = .int .i64 i ∧ (∀ y ∈ T.take i, sLt y.1 k = true) ∧ Ext w1 W
/-- The first items, in a new row. -/
theorem pu_one {P : Nat → Prop} {w1 X : World} {T : Tb} {A : Option Addr} {n c i : Nat} (hr : kIt.row w1 P A n T) (hX : Ext w1 X) (hi : i ≤ n) (hn : n ≤ 40000000) :
    ∃ A1 c1 w2, (Builtin.append_ #[33, 33] 33 #[.slice none 0 0, .slice A i c]).run Tryz.prog X = .ok (.slice A1 i c1) w2 ∧ Ext w1 w2 ∧ kIt.own 99 w2 w1.heap.size (fun j => P j ∨ w1.heap.size ≤ j) (.slice A1 i c1) (T.take i) := by
  have hlen := Lay.row_len hr
  obtain ⟨A1, c1, w2, r1, o1, x1⟩ := own_app (k := kIt) (Pr := Tryz.prog) (t := 33) (e := 99) Tryz.underlying33 info99 rfl (by decide) (by omega) (Lay.own_nil kIt 99 X w1.heap.size (fun j => P j ∨ w1.heap.size ≤ j)) hX (Lay.row_mono (Lay.row_take hr i hi) fun j hj _ => .inl hj) c (by simp; omega)
  simp only [List.length_nil, Nat.zero_add, List.nil_append] at r1 o1
  exact ⟨A1, c1, w2, r1, x1, o1⟩
/-- A further item, behind which its places have been laid. -/
theorem pu_two {P : Nat → Prop} {w1 X : World} {T1 : Tb} {A1 : Option Addr} {i c1 : Nat} (ho : kIt.own 99 X w1.heap.size (fun j => P j ∨ w1.heap.size ≤ j) (.slice A1 i c1) T1) (hX : Ext w1 X) (hi : i = T1.length) (hi2 : i ≤ 40000000) {k : List UInt8} {l : List Ct} {B : Option Addr} {m d : Nat} (hm : m ≤ d)
    (hr : kCt.row X (fun j => (P j ∨ w1.heap.size ≤ j) ∧ (Value.slice A1 i c1).ownBlock ≠ some j) B m l) :
    ∃ A2 c2 w3, (Builtin.append_ #[33, 33] 33 #[.slice A1 i c1, .slice (some ⟨X.heap.size, 0, none⟩) 1 1]).run Tryz.prog (X.alloc (.cells #[.string ⟨k.toArray⟩, .slice B m d] 99)) = .ok (.slice A2 (i + 1) c2) w3 ∧ Ext w1 w3 ∧ kIt.own 99 w3 w1.heap.size (fun j => P j ∨ w1.heap.size ≤ j) (.slice A2 (i + 1) c2) (T1 ++ [(k, l)]) := by
  subst hi
  obtain ⟨A2, c2, w3, r2, o2, b2, _⟩ := own_app1 (k := kIt) (Pr := Tryz.prog) (t := 33) (e := 99) Tryz.underlying33 info99 rfl (by decide) (by omega) ho hX.lt (cs := #[.string ⟨k.toArray⟩, .slice B m d]) (T := 99) (x := (k, l)) (kIt_rep.2 ⟨B, m, d, rfl, hm, hr⟩) 1 (by omega)
  exact ⟨A2, c2, w3, r2, Below.trans hX (b2 _ (Nat.le_refl _)), o2⟩
/-- The last items. -/
theorem pu_three {P : Nat → Prop} {w1 X : World} {T T1 : Tb} {A A1 : Option Addr} {n c i c1 l : Nat} (hr : kIt.row w1 P A n T) (ho : kIt.own 99 X w1.heap.size (fun j => P j ∨ w1.heap.size ≤ j) (.slice A1 i c1) T1) (hX : Ext w1 X) (hi : i = T1.length) (hi2 : i ≤ 50000000) (hl : l ≤ n) (hc : n ≤ c) (hn : n ≤ 40000000) :
    ∃ A3 c3 w4, (Builtin.append_ #[33, 33] 33 #[.slice A1 i c1, .slice (A.map fun a => if c = l then a else a.add (l * 2)) (n - l) (c - l)]).run Tryz.prog X = .ok (.slice A3 (i + (n - l)) c3) w4 ∧ i + (n - l) ≤ c3 ∧ kIt.row w4 (fun j => P j ∨ w1.heap.size ≤ j) A3 (i + (n - l)) (T1 ++ T.drop l) ∧ Ext w1 w4 := by
  subst hi
  obtain ⟨A3, c3, w4, r3, o3, x3⟩ := own_app (k := kIt) (Pr := Tryz.prog) (t := 33) (e := 99) Tryz.underlying33 info99 rfl (by decide) (by omega) ho hX (Lay.row_mono (row_lo hr l hl hc) fun j hj _ => .inl hj) (c - l) (by omega)
  obtain ⟨h9, h8⟩ := own_rowQ o3
  exact ⟨A3, c3, w4, r3, h9, Lay.row_mono h8 fun j hj _ => hj.elim id .inr, x3⟩
/-- The places of a key that is there, with a further one; the item behind the first ones. -/
theorem pu_place {P : Nat → Prop} {w1 w2 X : World} {T1 : Tb} {A1 : Option Addr} {i c1 : Nat} (ho : kIt.own 99 w2 w1.heap.size (fun j => P j ∨ w1.heap.size ≤ j) (.slice A1 i c1) T1) (hx2 : Ext w1 w2) (hX : Ext w2 X) (hi : i = T1.length) (hi2 : i ≤ 40000000) (k : List UInt8) {l : List Ct} (x : Ct) {B : Option Addr} {m d : Nat} (hm : m ≤ d) (hm2 : m ≤ 40000000)
    (hr : kCt.row w1 (fun j => P j ∧ j < w1.heap.size) B m l) :
    Calls Tryz.prog 120 #[.slice B m d, .agg #[.int .i64 x.br, .int .i64 x.nu, .int .i64 x.su, .int .i64 x.li]] X fun e w3 => ∃ B' m' d', e = .returned (.slice B' m' d') ∧ Ext w1 w3 ∧ ∃ A2 c2 w4,
      (Builtin.append_ #[33, 33] 33 #[.slice A1 i c1, .slice (some ⟨w3.heap.size, 0, none⟩) 1 1]).run Tryz.prog (w3.alloc (.cells #[.string ⟨k.toArray⟩, .slice B' m' d'] 99)) = .ok (.slice A2 (i + 1) c2) w4 ∧ Ext w1 w4 ∧ kIt.own 99 w4 w1.heap.size (fun j => P j ∨ w1.heap.size ≤ j) (.slice A2 (i + 1) c2) (T1 ++ [(k, placeP l x)]) := by
  have hlt := Lay.own_lt ho
  refine (placec_any (fun j => (P j ∨ w1.heap.size ≤ j) ∧ (Value.slice A1 i c1).ownBlock ≠ some j) X l x B m d (Lay.row_mono (Lay.row_ext hr (hx2.trans hX)) fun j hj _ => ⟨.inl hj.1, fun e => by have := (hlt j e).1; have := hj.2; omega⟩) hm hm2).mono ?_
  rintro e w3 ⟨B', m', d', rfl, hm', hr', hx3⟩
  obtain ⟨A2, c2, w4, r2, x4, o2⟩ := pu_two (k := k) (Lay.own_ext ho (hX.trans hx3)) ((hx2.trans hX).trans hx3) hi hi2 hm' (Lay.row_mono hr' fun j hj _ => hj.elim id fun hj => ⟨.inr (Nat.le_trans (hx2.trans hX).lt hj), fun e => by have := (hlt j e).2; have := hX.lt; omega⟩)
  exact ⟨B', m', d', rfl, (hx2.trans hX).trans hx3, A2, c2, w4, r2, x4, o2⟩
/-- A new key with one place behind the first items. -/
theorem pu_new {P : Nat → Prop} {w1 w2 : World} {T1 : Tb} {A1 : Option Addr} {i c1 : Nat} (ho : kIt.own 99 w2 w1.heap.size (fun j => P j ∨ w1.heap.size ≤ j) (.slice A1 i c1) T1) (hx2 : Ext w1 w2) (hi : i = T1.length) (hi2 : i ≤ 40000000) (k : List UInt8) (x : Ct) :
    ∃ A2 c2 w4, (Builtin.append_ #[33, 33] 33 #[.slice A1 i c1, .slice (some ⟨w2.heap.size + 1, 0, none⟩) 1 1]).run Tryz.prog ((w2.alloc (.cells #[.int .i64 x.br, .int .i64 x.nu, .int .i64 x.su, .int .i64 x.li] 69)).alloc (.cells #[.string ⟨k.toArray⟩, .slice (some ⟨w2.heap.size, 0, none⟩) 1 1] 99)) = .ok (.slice A2 (i + 1) c2) w4 ∧ Ext w1 w4 ∧
      kIt.own 99 w4 w1.heap.size (fun j => P j ∨ w1.heap.size ≤ j) (.slice A2 (i + 1) c2) (T1 ++ [(k, [x])]) := by
  have hlt := Lay.own_lt ho
  have hr : kCt.row (w2.alloc (.cells #[.int .i64 x.br, .int .i64 x.nu, .int .i64 x.su, .int .i64 x.li] 69)) (fun j => False ∨ w2.heap.size ≤ j) (some ⟨w2.heap.size, 0, none⟩) 1 [x] := (own_rowQ (own_new (k := kCt) (X := w2) (base := w2.heap.size) (P := fun _ => False) (x := x) (cs := #[.int .i64 x.br, .int .i64 x.nu, .int .i64 x.su, .int .i64 x.li]) (e := 69) (Nat.le_refl _) (kCt_rep.2 rfl))).2
  have hx3 : Ext w2 (w2.alloc (.cells #[.int .i64 x.br, .int .i64 x.nu, .int .i64 x.su, .int .i64 x.li] 69)) := (Ext.refl w2).alloc _
  obtain ⟨A2, c2, w4, r2, x4, o2⟩ := pu_two (k := k) (Lay.own_ext ho hx3) (hx2.trans hx3) hi hi2 (Nat.le_refl 1) (Lay.row_mono hr fun j hj _ => hj.elim False.elim fun hj => ⟨.inr (Nat.le_trans hx2.lt hj), fun e => by have := (hlt j e).2; omega⟩)
  have e : (w2.alloc (.cells #[.int .i64 x.br, .int .i64 x.nu, .int .i64 x.su, .int .i64 x.li] 69)).heap.size = w2.heap.size + 1 := by simp
  rw [e] at r2
  exact ⟨A2, c2, w4, r2, x4, o2⟩
set_option maxHeartbeats 4000000 in
set_option maxRecDepth 100000 in
theorem put_any (P : Nat → Prop) (w : World) (T : Tb) (k : List UInt8) (x : Ct) (A : Option Addr) (n c : Nat) (h : kIt.row w P A n T) (hc : n ≤ c) (hn : n ≤ 40000000) (hT : ∀ y ∈ T, y.2.length ≤ 40000000) :
    Calls Tryz.prog 62 #[.slice A n c, .string ⟨k.toArray⟩, ctV x] w fun e w' => ∃ A' n' c', e = .returned (.slice A' n' c') ∧ n' ≤ c' ∧ kIt.row w' (fun j => P j ∨ w.heap.size ≤ j) A' n' (putP T k x) ∧ Ext w w' := by
  have HL := Lib.hid (Lay.row_len h)
  have HA := Lib.hid (fun e => row_A h e)
  have HTB := Lib.hid hT
  clear hT
  unfold ctV
  obtain ⟨z, hz⟩ : ∃ z, w.heap.size = z := ⟨_, rfl⟩
  obtain ⟨w1, hw1⟩ : ∃ w1, w.alloc (.cells #[.int .i64 x.br, .int .i64 x.nu, .int .i64 x.su, .int .i64 x.li] 69) = w1 := ⟨_, rfl⟩
  have hx1 : Ext w w1 := by rw [← hw1]; exact (Ext.refl w).alloc _
  have hB : w1.heap[z]? = some (.cells #[.int .i64 x.br, .int .i64 x.nu, .int .i64 x.su, .int .i64 x.li] 69 (0, 0)) := by rw [← hw1, ← hz]; exact heap_alloc_new _ _
  have hzl := lt_of_block hB
  have HQ := Lib.hid (fun X (hX : Ext w1 X) => (show X.cell? ⟨z, 0, none⟩ = some (.int .i64 x.br) ∧ X.cell? ⟨z, 1, none⟩ = some (.int .i64 x.nu) ∧ X.cell? ⟨z, 2, none⟩ = some (.int .i64 x.su) ∧ X.cell? ⟨z, 3, none⟩ = some (.int .i64 x.li) from
    have h9 := (hX.block _ hzl).trans hB
    ⟨cell_of h9 (i := 0) rfl, cell_of h9 (i := 1) rfl, cell_of h9 (i := 2) rfl, cell_of h9 (i := 3) rfl⟩))
  have HR1 := Lib.hid (show kIt.row w1 (fun j => P j ∧ j < w1.heap.size) A n T from Lay.row_mono (Lay.row_ext h hx1) fun j hj hjl => ⟨hj, hjl⟩)
  have HX1 := Lib.hid hx1
  have HZ := Lib.hid (show w.heap.size ≤ w1.heap.size from hx1.lt)
  have HRF := Lib.hid (fun (X : World) (B : Option Addr) (m : Nat) (S : Tb) (hr : kIt.row X (fun j => (P j ∧ j < w1.heap.size) ∨ w1.heap.size ≤ j) B m S) => (show kIt.row X (fun j => P j ∨ w.heap.size ≤ j) B m S from Lay.row_mono hr fun j hj _ => hj.imp (·.1) (Nat.le_trans hx1.lt)))
  have HTK := Lib.hid (fun i (hi : i ≤ n) => (show i = (T.take i).length by rw [List.length_take]; have := HL.out; omega))
  clear h hx1 hB hzl
  go_enter Tryz.func62, Tryz.ntmps62
  go_upto_region 1 with (fail)
  clear hw1 hz
  go_wp2_with fail
  go_loopw [7] (fun s7 W => PuR w1 T k s7 W) (fun s7 _ => toM n s7)
  case atStart => exact ⟨0, by omega, rfl, by simp, Ext.refl _⟩
  case round =>
    obtain ⟨i, hi, rfl, hp, hxr⟩ := hrel
    rw [← HL.out] at hi
    have HP := Lib.hid hp
    have HX := Lib.hid hxr
    clear hp hxr
    have hw1i : IntKind.i64.wrap ((i : Int) + 1) = (i : Int) + 1 := IntWalk.i64_in _ (by omega)
    by_cases hin : i < n
    case neg =>
      obtain rfl : i = n := by omega
      have hin' : ¬ ((i : Int) < (i : Int)) := by omega
      have hinb : decide ((i : Int) < (i : Int)) = false := decide_eq_false hin'
      have HPE := Lib.hid (show putP T k x = T.take i ++ [(k, [x])] ++ T.drop i from by
        have hp := HP.out
        rw [HL.out, List.take_length] at hp
        rw [HL.out, List.take_length, List.drop_length, List.append_nil]
        exact put_end hp)
      have hs1 := fun W => hi33 A i c i hi hc HA.out W
      have hs2 := fun W => lo33 A i c i hi hc HA.out W
      obtain ⟨A1, c1, w2, r1, x2, o1⟩ := pu_one (c := c) HR1.out HX.out hi hn
      obtain ⟨A2, c2, w4, r2, x4, o2⟩ := pu_new o1 x2 (HTK.out i hi) (by omega) k x
      obtain ⟨A3, c3, w5, r3, hc3, o3, x5⟩ := pu_three (l := i) HR1.out o2 x4 (by rw [List.length_append, ← HTK.out i hi]; rfl) (by omega) hi hc hn
      obtain ⟨q0, q1, q2, q3⟩ := HQ.out _ x2
      generalize (A.map fun a => if c = i then a else a.add (i * 2)) = B at hs2 r3
      generalize c - i = ck at hs2 r3
      generalize hnk : i - i = nk at hs2 r3 hc3 o3
      have R1 := Lib.hid r1
      have R2 := Lib.hid r2
      have R3 := Lib.hid r3
      have HO3 := Lib.hid o3
      have HX5 := Lib.hid x5
      have HC3 := Lib.hid hc3
      clear r1 x2 o1 r2 x4 o2 r3 hc3 o3 x5 hnk
      go_wp2_with (first
        | (at_builtin; refine wpList_append_run (s := .tmp 24) (x := .tmp 27) R1.out rfl rfl rfl rfl rfl ?_)
        | (at_builtin; refine wpList_append_run (s := .tmp 60) (x := .tmp 65) R2.out rfl rfl rfl rfl rfl ?_)
        | (at_builtin; refine wpList_append_run (s := .tmp 67) (x := .tmp 70) R3.out rfl rfl rfl rfl rfl ?_))
      go_ret
      refine ⟨A3, _, c3, rfl, HC3.out, ?_, HX1.out.trans HX5.out⟩
      rw [HPE.out]
      exact HRF.out _ _ _ _ HO3.out
    have hI : (i : Int) < (n : Int) := by omega
    obtain ⟨y, hy⟩ : ∃ y, T[i]? = some y := ⟨_, List.getElem?_eq_getElem (by have := HL.out; omega)⟩
    obtain ⟨b, off, A2, n2, c2, rfl, hb, a0, a1, hnc2, hr2⟩ := it_at HR1.out hy
    have HYC := Lib.hid (fun X (hX : Ext w1 X) => (show X.cell? ⟨b, off + i * 2, none⟩ = some (.string ⟨y.1.toArray⟩) ∧ X.cell? ⟨b, off + i * 2 + 1, none⟩ = some (.slice A2 n2 c2) from ⟨(hX.cells.1 b _ hb).trans a0, (hX.cells.1 b _ hb).trans a1⟩))
    have HR2 := Lib.hid hr2
    have HN2 := Lib.hid (show n2 ≤ 40000000 by rw [Lay.row_len hr2]; exact HTB.out y (List.mem_of_getElem? hy))
    have HY := Lib.hid hy
    clear a0 a1 hy hr2
    obtain ⟨a0, a1⟩ := HYC.out _ HX.out
    cases hs : sLt y.1 k with
    | true =>
      have hbl : Op.bytesLess y.1 k = true := hs
      have HNX := Lib.hid (show ∀ y ∈ T.take (i + 1), sLt y.1 k = true from by
        intro y' hy'
        rw [List.take_add_one, HY.out] at hy'
        rcases List.mem_append.1 hy' with h8 | h8
        · exact HP.out y' h8
        · simp only [Option.toList_some, List.mem_singleton] at h8
          subst h8; exact hs)
      clear hs
      go_wp2_with fail
      go_roundw
      case rel => exact ⟨i + 1, by have := HL.out; omega, by go_num, HNX.out, HX.out⟩
      case measure => simp only [toM]; omega
    | false =>
      have hbl : Op.bytesLess y.1 k = false := hs
      have HPL := Lib.hid (put_here (x := x) HP.out HY.out hs)
      clear hs
      have hs1 := fun W => hi33 (some ⟨b, off, none⟩) n c i hi hc HA.out W
      obtain ⟨A1, c1, w2, r1, x2, o1⟩ := pu_one (c := c) HR1.out HX.out hi hn
      obtain ⟨q0, q1, q2, q3⟩ := HQ.out _ x2
      obtain ⟨e0, e1⟩ := HYC.out _ x2
      have R1 := Lib.hid r1
      clear r1
      by_cases hyk : y.1 = k
      · have hbq : (y.1 == k) = true := by simpa using hyk
        have HPE := Lib.hid (HPL.out.trans (if_pos hyk))
        have HCP := Lib.hid (fun X (hX : Ext w2 X) => pu_place o1 x2 hX (HTK.out i hi) (by omega) k x hnc2 HN2.out (Lay.row_mono HR2.out fun j hj hjl => ⟨hj, hjl⟩))
        have hs3 : ∀ W, (Instr.sliceAt 33 (.slice (some ⟨b, off, none⟩) n c) (some (.int .i64 ((i : Int) + 1))) none none).run Tryz.prog W = .ok (.slice ((some (⟨b, off, none⟩ : Addr)).map fun a => if c = i + 1 then a else a.add ((i + 1) * 2)) (n - (i + 1)) (c - (i + 1))) W := fun W => by
          have := lo33 (some ⟨b, off, none⟩) n c (i + 1) (by omega) hc HA.out W
          rwa [Int.natCast_add] at this
        have HTH := Lib.hid (fun (X : World) (A5 : Option Addr) (c5 : Nat) o5 x5 => pu_three (P := fun j => P j ∧ j < w1.heap.size) (w1 := w1) (X := X) (T := T) (T1 := T.take i ++ [(k, placeP y.2 x)]) (A := some ⟨b, off, none⟩) (A1 := A5) (n := n) (c := c) (i := i + 1) (c1 := c5) (l := i + 1) HR1.out o5 x5 (by rw [List.length_append, ← HTK.out i hi]; rfl) (by omega) (by omega) hc hn)
        generalize ((some (⟨b, off, none⟩ : Addr)).map fun a => if c = i + 1 then a else a.add ((i + 1) * 2)) = B at hs3 HTH
        generalize c - (i + 1) = ck at hs3 HTH
        generalize n - (i + 1) = nk at hs3 HTH
        have HS := Lib.hid (fun X (hX : Ext w1 X) => And.intro (HYC.out X hX).2 (HQ.out X hX))
        clear hyk o1
        have HX2 := Lib.hid x2
        clear x2
        go_upto_region 7 with (first | (at_builtin; refine wpList_append_run (s := .tmp 24) (x := .tmp 27) R1.out rfl rfl rfl rfl rfl ?_))
        have hcur : Ext w1 w2.drew := HX2.out.drew
        go_region_held3 (fun X => X.cell? ⟨b, off + i * 2 + 1, none⟩ = some (.slice A2 n2 c2) ∧ X.cell? ⟨z, 0, none⟩ = some (.int .i64 x.br) ∧ X.cell? ⟨z, 1, none⟩ = some (.int .i64 x.nu) ∧ X.cell? ⟨z, 2, none⟩ = some (.int .i64 x.su) ∧ X.cell? ⟨z, 3, none⟩ = some (.int .i64 x.li))
          (first | exact HS.out _ hcur | exact HS.out _ (hcur.alloc _)) (first
          | (go_at_call 120; refine (HCP.out _ (Ext.refl w2).drew).mono ?_; rintro e w3 ⟨B', m', d', rfl, x3, A5, c5, w4, r2, x4, o2⟩; obtain ⟨A6, c6, w5, r3, hc6, o6, x6⟩ := HTH.out _ _ _ o2 x4; have hcur := x3; have R2 := Lib.hid r2; have R3 := Lib.hid r3; have HC6 := Lib.hid hc6; have HO6 := Lib.hid o6; have HX6 := Lib.hid x6; have HX4 := Lib.hid x4; clear x3 r2 x4 o2 r3 hc6 o6 x6)
          | (have hcur := HX4.out; refine step_append_run (s := .tmp 42) (x := .tmp 52) R2.out rfl rfl rfl rfl rfl ?_))
        go_wp2_with (first
          | (at_builtin; refine wpList_append_run (s := .tmp 54) (x := .tmp 58) R3.out rfl rfl rfl rfl rfl ?_))
        go_ret
        refine ⟨A6, _, c6, rfl, HC6.out, ?_, HX1.out.trans HX6.out⟩
        rw [HPE.out]
        exact HRF.out _ _ _ _ HO6.out
      · have hbq : (y.1 == k) = false := by simpa using hyk
        have HPE := Lib.hid (HPL.out.trans (if_neg hyk))
        have hs2 := fun W => lo33 (some ⟨b, off, none⟩) n c i hi hc HA.out W
        obtain ⟨A5, c5, w4, r2, x4, o2⟩ := pu_new o1 x2 (HTK.out i hi) (by omega) k x
        obtain ⟨A6, c6, w5, r3, hc6, o6, x6⟩ := pu_three (l := i) HR1.out o2 x4 (by rw [List.length_append, ← HTK.out i hi]; rfl) (by omega) hi hc hn
        generalize ((some (⟨b, off, none⟩ : Addr)).map fun a => if c = i then a else a.add (i * 2)) = B at hs2 r3
        generalize c - i = ck at hs2 r3
        generalize n - i = nk at hs2 r3 hc6 o6
        have R2 := Lib.hid r2
        have R3 := Lib.hid r3
        have HC6 := Lib.hid hc6
        have HO6 := Lib.hid o6
        have HX6 := Lib.hid x6
        clear hyk o1 x2 r2 x4 o2 r3 hc6 o6 x6
        go_wp2_with (first
          | (at_builtin; refine wpList_append_run (s := .tmp 24) (x := .tmp 27) R1.out rfl rfl rfl rfl rfl ?_)
          | (at_builtin; refine wpList_append_run (s := .tmp 60) (x := .tmp 65) R2.out rfl rfl rfl rfl rfl ?_)
          | (at_builtin; refine wpList_append_run (s := .tmp 67) (x := .tmp 70) R3.out rfl rfl rfl rfl rfl ?_))
        go_ret
        refine ⟨A6, _, c6, rfl, HC6.out, ?_, HX1.out.trans HX6.out⟩
        rw [HPE.out]
        exact HRF.out _ _ _ _ HO6.out
end Go.Proofs.YtdbnddmncbjobaaGreatDoor

/- Tables merged and looked up, in plain Lean. -/
namespace Go.Proofs.YtdbnddmncbjobaaGreatDoor

/-- The keys and places of a table, in its order. -/
def prs (T : Tb) : List (List UInt8 × Ct) := T.flatMap fun x => x.2.map fun c => (x.1, c)
theorem mem_prs (T : Tb) (k : List UInt8) (c : Ct) : (k, c) ∈ prs T ↔ Has T k c := by
  unfold prs Has
  simp only [List.mem_flatMap, List.mem_map, Prod.mk.injEq, Prod.exists]
  constructor
  · rintro ⟨k', l, h, c', hc, rfl, rfl⟩; exact ⟨l, h, hc⟩
  · rintro ⟨l, h, hc⟩; exact ⟨k, l, h, c, hc, rfl, rfl⟩
theorem prs_append (S T : Tb) : prs (S ++ T) = prs S ++ prs T := List.flatMap_append
theorem prs_cons (x : List UInt8 × List Ct) (T : Tb) : prs (x :: T) = (x.2.map fun c => (x.1, c)) ++ prs T := List.flatMap_cons
/-- Two tables merged. -/
def mrgP (S T : Tb) : Tb := tabP (prs S ++ prs T)
theorem has_mrg (S T : Tb) (k : List UInt8) (c : Ct) : Has (mrgP S T) k c ↔ Has S k c ∨ Has T k c := by
  unfold mrgP; rw [has_tab, List.mem_append, mem_prs, mem_prs]
theorem reg_mrg (S T : Tb) : Reg (mrgP S T) := reg_tab _
theorem mrg_sub {S T : Tb} (hT : Reg T) (h : ∀ k c, Has S k c → Has T k c) : mrgP S T = T :=
  reg_ext (reg_mrg S T) hT fun k c => by rw [has_mrg]; exact ⟨fun h9 => h9.elim (h k c) id, .inr⟩
theorem mrg_self {T : Tb} (hT : Reg T) : mrgP T T = T := mrg_sub hT fun _ _ h => h
theorem mrg_nil {T : Tb} (hT : Reg T) : mrgP [] T = T := mrg_sub hT fun k c h => absurd h (has_nil k c)
theorem mrg_comm (S T : Tb) : mrgP S T = mrgP T S :=
  reg_ext (reg_mrg _ _) (reg_mrg _ _) fun k c => by rw [has_mrg, has_mrg]; exact or_comm
theorem mrg_assoc (S T U : Tb) : mrgP (mrgP S T) U = mrgP S (mrgP T U) :=
  reg_ext (reg_mrg _ _) (reg_mrg _ _) fun k c => by simp only [has_mrg, or_assoc]
/-- The places of a key. -/
def findP (T : Tb) (k : List UInt8) : Option (List Ct) := (T.find? fun x => x.1 == k).map (·.2)
theorem find_mem {T : Tb} {k : List UInt8} {l : List Ct} (h : findP T k = some l) : (k, l) ∈ T := by
  unfold findP at h
  cases hf : T.find? fun x => x.1 == k with
  | none => rw [hf] at h; cases h
  | some x =>
    rw [hf] at h
    have h1 := List.find?_some hf
    have h2 := List.mem_of_find?_eq_some hf
    simp only [Option.map_some, Option.some.injEq] at h
    have h3 : x.1 = k := by simpa using h1
    obtain ⟨a, b⟩ := x
    simp only at h h3
    subst h h3
    exact h2
theorem find_has {T : Tb} (hT : Reg T) {k : List UInt8} {l : List Ct} (h : findP T k = some l) (c : Ct) : c ∈ l ↔ Has T k c := (hT.at (find_mem h) c).symm
theorem find_none {T : Tb} {k : List UInt8} (h : findP T k = none) (l : List Ct) : (k, l) ∉ T := fun hm => by
  unfold findP at h
  cases hf : T.find? fun x => x.1 == k with
  | none => have := List.find?_eq_none.1 hf _ hm; simp at this
  | some x => rw [hf] at h; cases h
theorem find_of {T : Tb} (hT : Reg T) {k : List UInt8} {l : List Ct} (h : (k, l) ∈ T) : findP T k = some l := by
  cases hf : findP T k with
  | none => exact absurd h (find_none hf l)
  | some l' => rw [keys_one hT.keys (find_mem hf) h]
theorem find_is {T : Tb} (hT : Reg T) (k : List UInt8) : (findP T k).isSome = true ↔ ∃ c, Has T k c := by
  constructor
  · intro h
    obtain ⟨l, hl⟩ := Option.isSome_iff_exists.1 h
    have hm := find_mem hl
    obtain ⟨c, hc⟩ := List.exists_mem_of_ne_nil _ (hT.some _ hm)
    exact ⟨c, l, hm, hc⟩
  · rintro ⟨c, l, hm, _⟩
    rw [find_of hT hm]; rfl
/-- The places of a key, or none. -/
def plc (T : Tb) (k : List UInt8) : List Ct := (findP T k).getD []
theorem mem_plc {T : Tb} (hT : Reg T) (k : List UInt8) (c : Ct) : c ∈ plc T k ↔ Has T k c := by
  unfold plc
  cases hf : findP T k with
  | none => exact ⟨fun h => (by simp at h), fun ⟨l, hm, _⟩ => absurd hm (find_none hf l)⟩
  | some l => exact find_has hT hf c
theorem plc_nodup {T : Tb} (hT : Reg T) (k : List UInt8) : (plc T k).Nodup := by
  unfold plc
  cases hf : findP T k with
  | none => exact .nil
  | some l => exact (hT.rise _ (find_mem hf)).imp fun {a b} h e => by subst e; exact cLt_irrefl _ h
theorem nodup_sub_len {α : Type} [DecidableEq α] : ∀ {l l' : List α}, l.Nodup → (∀ x ∈ l, x ∈ l') → l.length ≤ l'.length
  | [], _, _, _ => Nat.zero_le _
  | x :: r, l', hn, h => by
    rw [List.nodup_cons] at hn
    have hx := h x (.head _)
    have ih := nodup_sub_len (l := r) (l' := l'.erase x) hn.2 fun y hy => (List.mem_erase_of_ne (fun e => hn.1 (by rw [← e]; exact hy))).2 (h y (.tail _ hy))
    rw [List.length_erase_of_mem hx] at ih
    have := List.length_pos_of_mem hx
    simp only [List.length_cons]
    omega
theorem find_union {S T : Tb} (hS : Reg S) (hT : Reg T) (k : List UInt8) :
    (findP (mrgP S T) k).isSome = ((findP S k).isSome || (findP T k).isSome) ∧ (plc S k).length ≤ (plc (mrgP S T) k).length ∧ (plc T k).length ≤ (plc (mrgP S T) k).length ∧ (plc (mrgP S T) k).length ≤ (plc S k).length + (plc T k).length := by
  have hm := reg_mrg S T
  refine ⟨?_, nodup_sub_len (plc_nodup hS k) fun c hc => (mem_plc hm k c).2 ((has_mrg S T k c).2 (.inl ((mem_plc hS k c).1 hc))),
    nodup_sub_len (plc_nodup hT k) fun c hc => (mem_plc hm k c).2 ((has_mrg S T k c).2 (.inr ((mem_plc hT k c).1 hc))), ?_⟩
  · rw [Bool.eq_iff_iff, Bool.or_eq_true, find_is hm, find_is hS, find_is hT]
    simp only [has_mrg]
    constructor
    · rintro ⟨c, h | h⟩
      · exact .inl ⟨c, h⟩
      · exact .inr ⟨c, h⟩
    · rintro (⟨c, h⟩ | ⟨c, h⟩)
      · exact ⟨c, .inl h⟩
      · exact ⟨c, .inr h⟩
  · rw [← List.length_append]
    exact nodup_sub_len (plc_nodup hm k) fun c hc => List.mem_append.2 (((has_mrg S T k c).1 ((mem_plc hm k c).1 hc)).imp (mem_plc hS k c).2 (mem_plc hT k c).2)
/-- How large tables grow. -/
theorem put_len : ∀ (T : Tb) (k : List UInt8) (c : Ct), (prs (putP T k c)).length ≤ (prs T).length + 1
  | [], k, c => by simp [putP, prs]
  | q :: r, k, c => by
    have ih := put_len r k c
    unfold putP
    split
    · simp only [prs_cons, List.length_append, List.length_map] at ih ⊢; omega
    · split
      · have h9 : ∀ l : List Ct, (placeP l c).length ≤ l.length + 1 := by
          intro l
          induction l with
          | nil => simp [placeP]
          | cons y l ih =>
            unfold placeP
            split
            · simp only [List.length_cons]; omega
            · split <;> simp only [List.length_cons] <;> omega
        have := h9 q.2
        simp only [prs_cons, List.length_append, List.length_map]; omega
      · simp only [prs_cons, List.length_append, List.length_map, List.length_cons, List.length_nil]; omega
theorem tab_len (hs : List (List UInt8 × Ct)) : (prs (tabP hs)).length ≤ hs.length := by
  have key : ∀ (hs : List (List UInt8 × Ct)) (T : Tb), (prs (hs.foldl (fun T h => putP T h.1 h.2) T)).length ≤ (prs T).length + hs.length := by
    intro hs
    induction hs with
    | nil => intro T; simp
    | cons h r ih => intro T; rw [List.foldl_cons]; have h1 := ih (putP T h.1 h.2); have h2 := put_len T h.1 h.2; simp only [List.length_cons]; omega
  have := key hs []
  simpa [prs, tabP] using this
theorem prs_le : ∀ {T : Tb}, (∀ x ∈ T, x.2 ≠ []) → T.length ≤ (prs T).length
  | [], _ => Nat.zero_le _
  | x :: T, h => by
    have h1 := prs_le (T := T) fun y hy => h y (.tail _ hy)
    have h2 := List.length_pos_iff.2 (h x (.head _))
    simp only [prs_cons, List.length_append, List.length_map, List.length_cons]
    omega
theorem prs_mem_le : ∀ {T : Tb} {x : List UInt8 × List Ct}, x ∈ T → x.2.length ≤ (prs T).length
  | y :: T, x, h => by
    simp only [prs_cons, List.length_append, List.length_map]
    rcases List.mem_cons.1 h with rfl | h
    · omega
    · have := prs_mem_le (T := T) h; omega
/-- A table is regular: the keys of what keys come with. -/
theorem tab_key {hs : List (List UInt8 × Ct)} {x : List UInt8 × List Ct} (h : x ∈ tabP hs) : ∃ c, (x.1, c) ∈ hs := by
  obtain ⟨c, hc⟩ := List.exists_mem_of_ne_nil _ ((reg_tab hs).some _ h)
  exact ⟨c, (has_tab hs _ _).1 ⟨x.2, h, hc⟩⟩
end Go.Proofs.YtdbnddmncbjobaaGreatDoor

/- Around and Pick of the third reference: the bodies of Hp's, under other numbers. -/
namespace Go.Proofs.YtdbnddmncbjobaaGreatDoor
open Go Go.RowKit

theorem around3_fn (n m : Int) (w : World) (h1 : -9223372036854775808 ≤ n) (h2 : n ≤ 9223372036854775807) (h3 : 1 ≤ m) (h4 : m ≤ 1000000000) :
    Calls Tryz.prog 17 #[.int .i64 n, .int .i64 m] w fun e w' => e = .returned (.int .i64 (arnd n m)) ∧ w = w' := by
  by_cases h : n < 0
  · have hb := neg_tmod_in n m h h3
    have HB := Lib.hid hb; clear hb
    have HE := Lib.hid (arnd_neg (m := m) h)
    go_enter Tryz.func17, Tryz.ntmps17
    go_wp2
    go_ret
    exact ⟨ret_int (by simpa using HE.out), rfl⟩
  · have HE := Lib.hid (arnd_pos (m := m) h)
    go_enter Tryz.func17, Tryz.ntmps17
    go_wp2
    go_ret
    exact ⟨ret_int (by simpa using HE.out), rfl⟩
set_option maxRecDepth 100000 in
theorem pick3_any (A : Option Addr) (c : Nat) (l : List Int) (i m : Nat) (w : World) (hm : 1 ≤ m) (hm2 : m ≤ 1000000000) (hb : ∀ n ∈ l, -9223372036854775808 ≤ n ∧ n ≤ 9223372036854775807) (h : SL icf 1 w A l.length l) :
    Calls Tryz.prog 65 #[.slice A l.length c, .int .i64 i, .int .i64 m] w fun e w' => e = .returned (.int .i64 (pkI l i m)) ∧ w = w' := by
  by_cases hil : i < l.length
  · obtain ⟨b, off, n, rfl, hbb, hn, hmem, hc⟩ := h.at hil
    have HP := Lib.hid (show pkI l i m = arnd n m by unfold pkI; rw [hn])
    have hc0 := hc 0 (.int .i64 n) rfl
    rw [Nat.mul_one, Nat.add_zero] at hc0
    have HA := Lib.hid (fun X => around3_fn n m X (hb n hmem).1 (hb n hmem).2 (by omega) (by omega))
    have hni : ¬ (l.length : Int) ≤ (i : Int) := by omega
    clear hc hn h
    go_enter Tryz.func65, Tryz.ntmps65
    go_wp2_with (first | (go_at_call 17; refine (HA.out _).mono ?_; rintro e w1 ⟨rfl, rfl⟩))
    go_ret
    exact ⟨ret_int (by rw [HP.out]), rfl⟩
  · have HP := Lib.hid (show pkI l i m = 0 by unfold pkI; rw [List.getElem?_eq_none (by omega)])
    have hni : (l.length : Int) ≤ (i : Int) := by omega
    clear h
    go_enter Tryz.func65, Tryz.ntmps65
    go_wp2
    go_ret
    exact ⟨ret_int (by rw [HP.out]), rfl⟩
end Go.Proofs.YtdbnddmncbjobaaGreatDoor

/- The reference's Table: walked. -/
namespace Go.Proofs.YtdbnddmncbjobaaGreatDoor
open Go Go.RowKit
attribute [local go_sem] Oper.semAt_some

/-- A table in memory, with at most M places. -/
structure TbV (W : World) (A : Option Addr) (n c : Nat) (T : Tb) (M : Nat) : Prop where
  row : kIt.row W (fun _ => True) A n T
  nc : n ≤ c
  reg : Reg T
  len : (prs T).length ≤ M
  key : ∀ x ∈ T, x.1.length ≤ 1000
theorem TbV.ext {W W' : World} {A : Option Addr} {n c : Nat} {T : Tb} {M : Nat} (h : TbV W A n c T M) (hx : Ext W W') : TbV W' A n c T M := ⟨Lay.row_ext h.row hx, h.nc, h.reg, h.len, h.key⟩
theorem TbV.n {W : World} {A : Option Addr} {n c : Nat} {T : Tb} {M : Nat} (h : TbV W A n c T M) : n = T.length ∧ n ≤ M ∧ ∀ x ∈ T, x.2.length ≤ M := by
  have h1 := Lay.row_len h.row
  have h2 := prs_le h.reg.some
  have h3 := h.len
  exact ⟨h1, by omega, fun x hx => Nat.le_trans (prs_mem_le hx) h.len⟩
theorem TbV.nil (W : World) (M : Nat) : TbV W none 0 0 [] M := ⟨Lay.row_nil _ _ _, Nat.le_refl _, reg_nil, Nat.zero_le _, fun x hx => by cases hx⟩
theorem TbV.mono {W : World} {A : Option Addr} {n c : Nat} {T : Tb} {M M' : Nat} (h : TbV W A n c T M) (hm : M ≤ M') : TbV W A n c T M' := ⟨h.row, h.nc, h.reg, Nat.le_trans h.len hm, h.key⟩
/-- Put at a table in memory. -/
theorem put_tb {w : World} {A : Option Addr} {n c : Nat} {T : Tb} {M : Nat} (h : TbV w A n c T M) (hM : M ≤ 40000000) (k : List UInt8) (hk : k.length ≤ 1000) (x : Ct) :
    Calls Tryz.prog 62 #[.slice A n c, .string ⟨k.toArray⟩, .agg #[.int .i64 x.br, .int .i64 x.nu, .int .i64 x.su, .int .i64 x.li]] w fun e w' => ∃ A' n' c', e = .returned (.slice A' n' c') ∧ TbV w' A' n' c' (putP T k x) (M + 1) ∧ Ext w w' := by
  obtain ⟨_, hn, hm⟩ := h.n
  refine (put_any _ w T k x A n c h.row h.nc (by omega) fun y hy => Nat.le_trans (hm y hy) hM).mono ?_
  rintro e w' ⟨A', n', c', rfl, hc', hr', hx⟩
  refine ⟨A', n', c', rfl, ⟨Lay.row_mono hr' fun _ _ _ => trivial, hc', reg_put T k x h.reg, Nat.le_trans (put_len T k x) (Nat.succ_le_succ h.len), fun y hy => ?_⟩, hx⟩
  rcases put_keys T k x y hy with e | hy
  · rw [e]; exact hk
  · exact h.key y hy
def tkeyAt (i : Nat) : List UInt8 := ([[97], [98], [97, 98], [83, 109, 105, 116, 104], [122], []] : List (List UInt8))[i]?.getD []
def TlR (w : World) (s3 s4 : Value) (W : World) : Prop := ∃ (i : Nat) (A : Option Addr) (n c : Nat) (T : Tb), i ≤ 61 ∧ s4 = .int .i64 i ∧ s3 = .slice A n c ∧ TbV W A n c T i ∧ Ext w W
set_option maxHeartbeats 4000000 in
set_option maxRecDepth 100000 in
theorem table_any (A : Option Addr) (c : Nat) (l : List Int) (w : World) (h : IL w A c l) (_hl : l.length ≤ 9223372036854775807) :
    Calls Tryz.prog 22 #[.slice A l.length c] w fun e w' => ∃ A' n' c' T, e = .returned (.slice A' n' c') ∧ TbV w' A' n' c' T 100 ∧ Ext w w' := by
  have HPK := Lib.hid (fun X (hX : Ext w X) (i m : Nat) hm hm2 => pick3_any A c l i m X hm hm2 h.ok (h.sl.ext hX))
  obtain ⟨m, hm⟩ : ∃ m, l.length = m := ⟨_, rfl⟩
  rw [hm] at HPK _hl ⊢
  clear h hm
  go_enter Tryz.func22, Tryz.ntmps22
  go_wp2_with fail
  go_loopw [3, 4] (fun s3 s4 W => TlR w s3 s4 W) (fun _ s4 _ => toM 62 s4)
  case atStart => exact ⟨0, none, 0, 0, [], by omega, rfl, rfl, TbV.nil _ _, Ext.refl _⟩
  case round =>
    obtain ⟨i, A1, n1, c1, T, hi, rfl, rfl, hT, hx⟩ := hrel
    have HT := Lib.hid hT
    have HX := Lib.hid hx
    clear hT hx
    have hw1 : IntKind.i64.wrap ((i : Int) + 1) = (i : Int) + 1 := IntWalk.i64_in _ (by omega)
    have hw2 : IntKind.i64.wrap ((i : Int) + 2) = (i : Int) + 2 := IntWalk.i64_in _ (by omega)
    by_cases h1 : i + 1 < m
    case neg =>
      have hn1 : ¬ ((i : Int) + 1 < (m : Int)) := by omega
      go_wp2_with fail
      go_ret
      exact ⟨A1, n1, c1, rfl, ⟨T, HT.out.mono (by omega)⟩, HX.out⟩
    have hI1 : (i : Int) + 1 < (m : Int) := by omega
    by_cases h2 : i < 60
    case neg =>
      have hn2 : ¬ ((i : Int) < 60) := by omega
      go_wp2_with fail
      go_ret
      exact ⟨A1, n1, c1, rfl, ⟨T, HT.out.mono (by omega)⟩, HX.out⟩
    have hI2 : (i : Int) < 60 := by omega
    obtain ⟨k0, hk0, hk0b⟩ := pk_nat l i 6 (by omega)
    obtain ⟨k1, hk1, hk1b⟩ := pk_nat l (i + 1) 1000 (by omega)
    have HP0 := Lib.hid (fun X hX => (show Calls Tryz.prog 65 #[.slice A m c, .int .i64 i, .int .i64 6] X (fun e w' => e = .returned (.int .i64 (k0 : Int)) ∧ X = w') from by rw [← hk0]; exact HPK.out X hX i 6 (by omega) (by omega)))
    have HP1 := Lib.hid (fun X hX => (show Calls Tryz.prog 65 #[.slice A m c, .int .i64 ((i : Int) + 1), .int .i64 1000] X (fun e w' => e = .returned (.int .i64 (k1 : Int)) ∧ X = w') from by
      rw [← hk1]
      have := HPK.out X hX (i + 1) 1000 (by omega) (by omega)
      rwa [Int.natCast_add] at this))
    clear hk0 hk1
    obtain ⟨z, hz⟩ : ∃ z, wr.heap.size = z := ⟨_, rfl⟩
    obtain ⟨w2, hw2'⟩ : ∃ w2, wr.alloc (.cells #[.string ⟨#[97]⟩, .string ⟨#[98]⟩, .string ⟨#[97, 98]⟩, .string ⟨#[83, 109, 105, 116, 104]⟩, .string ⟨#[122]⟩, .string ⟨#[]⟩] 9) = w2 := ⟨_, rfl⟩
    have hx2 : Ext wr w2 := by rw [← hw2']; exact (Ext.refl wr).alloc _
    have hB : w2.heap[z]? = some (.cells #[.string ⟨#[97]⟩, .string ⟨#[98]⟩, .string ⟨#[97, 98]⟩, .string ⟨#[83, 109, 105, 116, 104]⟩, .string ⟨#[122]⟩, .string ⟨#[]⟩] 9 (0, 0)) := by rw [← hw2', ← hz]; exact heap_alloc_new _ _
    have hc0 : w2.cell? ⟨z, k0, none⟩ = some (.string ⟨(tkeyAt k0).toArray⟩) := by
      have h6 : k0 = 0 ∨ k0 = 1 ∨ k0 = 2 ∨ k0 = 3 ∨ k0 = 4 ∨ k0 = 5 := by omega
      rcases h6 with rfl | rfl | rfl | rfl | rfl | rfl
      · exact cell_of hB (i := 0) rfl
      · exact cell_of hB (i := 1) rfl
      · exact cell_of hB (i := 2) rfl
      · exact cell_of hB (i := 3) rfl
      · exact cell_of hB (i := 4) rfl
      · exact cell_of hB (i := 5) rfl
    have hkl : (tkeyAt k0).length ≤ 1000 := by
      have h6 : k0 = 0 ∨ k0 = 1 ∨ k0 = 2 ∨ k0 = 3 ∨ k0 = 4 ∨ k0 = 5 := by omega
      rcases h6 with rfl | rfl | rfl | rfl | rfl | rfl <;> decide
    have hk6 : (k0 : Int) < 6 := by omega
    have HX2 := Lib.hid (HX.out.trans hx2)
    have HPU := Lib.hid (fun a b d e => put_tb (HT.out.ext hx2) (by omega) (tkeyAt k0) hkl ⟨a, b, d, e⟩)
    generalize tkeyAt k0 = key at hc0 HPU
    clear hB hx2 hkl
    go_wp2_with (first
      | (go_at_call_of 65 (Value.int .i64 6); refine (HP0.out _ HX2.out).mono ?_; rintro e w3 ⟨rfl, rfl⟩)
      | (go_at_call_of 65 (Value.int .i64 1000); refine (HP1.out _ HX2.out).mono ?_; rintro e w3 ⟨rfl, rfl⟩)
      | (go_at_call 62; refine (HPU.out _ _ _ _).mono ?_; rintro e w4 ⟨A4, n4, c4, rfl, hT4, hx4⟩; have HT4 := Lib.hid hT4; have HX4 := Lib.hid (HX2.out.trans hx4); clear hT4 hx4))
    go_roundw
    case rel => exact ⟨i + 2, A4, n4, c4, _, by omega, by go_num, rfl, HT4.out.mono (by omega), HX4.out⟩
    case measure => simp only [toM]; omega
end Go.Proofs.YtdbnddmncbjobaaGreatDoor

/- Finding a key, in the reference and by binary search: walked. -/
namespace Go.Proofs.YtdbnddmncbjobaaGreatDoor
open Go Go.RowKit
attribute [local go_sem] Oper.semAt_some

theorem own_empty {β : Type} {k : Lay β} {e : TypeId} {X : World} {base : Nat} {P : Nat → Prop} (hb : base ≤ X.heap.size) : k.own e (X.alloc (.cells #[] e)) base P (.slice (some ⟨X.heap.size, 0, none⟩) 0 0) [] :=
  ⟨[], ⟨by simp [gcells], .inr ⟨X.heap.size, 0, #[], rfl, hb, heap_alloc_new X _, Nat.le_refl _, by simp [maxLen], by simp, by simp [gcells]⟩⟩, rfl, fun i d x hd => by simp at hd⟩
/-- A copy of places behind an empty slice. -/
theorem cp_ct {P : Nat → Prop} {w X : World} {A : Option Addr} {n c : Nat} {l : List Ct} (hr : kCt.row w P A n l) (hX : Ext w X) (hn : n ≤ 40000000) :
    ∃ A' c' w', (Builtin.append_ #[38, 38] 38 #[.slice (some ⟨X.heap.size, 0, none⟩) 0 0, .slice A n c]).run Tryz.prog (X.alloc (.cells #[] 69)) = .ok (.slice A' n c') w' ∧ n ≤ c' ∧ kCt.row w' (fun j => P j ∨ w.heap.size ≤ j) A' n l ∧ Ext w w' := by
  obtain ⟨A', c', w', r, o, hx⟩ := own_app (k := kCt) (Pr := Tryz.prog) (t := 38) (e := 69) Tryz.underlying38 info69 rfl (by decide) (by omega) (own_empty (P := P) (Nat.le_trans hX.lt (Nat.le_refl _))) (hX.alloc _) hr c (by simp; omega)
  simp only [List.length_nil, Nat.zero_add, List.nil_append] at r o
  obtain ⟨h1, h2⟩ := own_rowQ o
  exact ⟨A', c', w', r, h1, h2, hx⟩
theorem findP_take {T : Tb} {k : List UInt8} {i : Nat} {y : List UInt8 × List Ct} (h : ∀ y ∈ T.take i, y.1 ≠ k) (hy : T[i]? = some y) (hk : y.1 = k) : findP T k = some y.2 := by
  unfold findP
  have : T.find? (fun x => x.1 == k) = some y := by
    obtain ⟨hi, rfl⟩ := List.getElem?_eq_some_iff.1 hy
    conv => lhs; rw [← List.take_append_drop i T, List.drop_eq_getElem_cons hi]
    rw [List.find?_append, List.find?_eq_none.2 (fun x hx => by simpa using h x hx), Option.none_or, List.find?_cons, show (T[i].1 == k) = true by simpa using hk]
  rw [this]; rfl
theorem find_nope {T : Tb} {k : List UInt8} (h : ∀ y ∈ T, y.1 ≠ k) : findP T k = none := by
  unfold findP
  rw [List.find?_eq_none.2 (fun x hx => by simpa using h x hx)]; rfl
/-- What both ways of finding a key give. -/
def FindGet (w : World) (T : Tb) (k : List UInt8) (e : Ending) (w' : World) : Prop := ∃ A n c, e = .returned (.tuple #[.slice A n c, .bool (findP T k).isSome]) ∧ n ≤ c ∧ kCt.row w' (fun _ => True) A n (plc T k) ∧ Ext w w'
theorem FindGet.no {w w' : World} {T : Tb} {k : List UInt8} (h : findP T k = none) (hx : Ext w w') : FindGet w T k (.returned (.tuple #[.slice none 0 0, .bool false])) w' := by
  refine ⟨none, 0, 0, by rw [h]; rfl, Nat.le_refl _, ?_, hx⟩
  unfold plc; rw [h]; exact Lay.row_nil _ _ _
theorem FindGet.yes {w w' : World} {T : Tb} {k : List UInt8} {l : List Ct} {A : Option Addr} {n c : Nat} (h : findP T k = some l) (hc : n ≤ c) {P : Nat → Prop} (hr : kCt.row w' P A n l) (hx : Ext w w') : FindGet w T k (.returned (.tuple #[.slice A n c, .bool true])) w' := by
  refine ⟨A, n, c, by rw [h]; rfl, hc, ?_, hx⟩
  unfold plc; rw [h]; exact Lay.row_mono hr fun _ _ _ => trivial
def RfqR (w : World) (T : Tb) (k : List UInt8) (s6 : Value) (W : World) : Prop := ∃ i : Nat, i ≤ T.length ∧ s6 = .int .i64 i ∧ (∀ y ∈ T.take i, y.1 ≠ k) ∧ Ext w W
set_option maxHeartbeats 4000000 in
set_option maxRecDepth 100000 in
theorem rfind_any (w : World) (T : Tb) (k : List UInt8) (A : Option Addr) (n c M : Nat) (h : TbV w A n c T M) (hM : M ≤ 40000000) : Calls Tryz.prog 24 #[.slice A n c, .string ⟨k.toArray⟩] w (FindGet w T k) := by
  have HR := Lib.hid h.row
  obtain ⟨hn, hnM, hlm⟩ := h.n
  have HL := Lib.hid hn
  have HM := Lib.hid hlm
  clear h hn hlm
  go_enter Tryz.func24, Tryz.ntmps24
  go_wp2_with fail
  go_loopw [6] (fun s6 W => RfqR w T k s6 W) (fun s6 _ => toM n s6)
  case atStart => exact ⟨0, by omega, rfl, by simp, Ext.refl _⟩
  case round =>
    obtain ⟨i, hi, rfl, hp, hx⟩ := hrel
    rw [← HL.out] at hi
    have HP := Lib.hid hp
    have HX := Lib.hid hx
    clear hp hx
    have hw1 : IntKind.i64.wrap ((i : Int) + 1) = (i : Int) + 1 := IntWalk.i64_in _ (by omega)
    by_cases hlt : i < n
    case neg =>
      have hni : ¬ ((i : Int) < (n : Int)) := by omega
      have HN := Lib.hid (find_nope (T := T) (k := k) (by have h9 := HP.out; rwa [List.take_of_length_le (by have := HL.out; omega)] at h9))
      go_wp2_with fail
      refine bodyPost_ret (v := .tuple #[.slice none 0 0, .bool false]) (by simp [results, Tryz.results24, go_sem]) rfl ?_
      exact FindGet.no HN.out HX.out
    have hI : (i : Int) < (n : Int) := by omega
    obtain ⟨y, hy⟩ : ∃ y, T[i]? = some y := ⟨_, List.getElem?_eq_getElem (by have := HL.out; omega)⟩
    obtain ⟨b, off, A2, n2, c2, rfl, hb, a0, a1, hnc2, hr2⟩ := it_at HR.out hy
    have hn2 : n2 ≤ 40000000 := by rw [Lay.row_len hr2]; exact Nat.le_trans (HM.out y (List.mem_of_getElem? hy)) hM
    have HYC := Lib.hid (fun X (hX : Ext w X) => (show X.cell? ⟨b, off + i * 2, none⟩ = some (.string ⟨y.1.toArray⟩) ∧ X.cell? ⟨b, off + i * 2 + 1, none⟩ = some (.slice A2 n2 c2) from ⟨(hX.cells.1 b _ hb).trans a0, (hX.cells.1 b _ hb).trans a1⟩))
    have hY0 := fun o => (HYC.out _ (HX.out.alloc o)).1
    have hY1 := fun o => (HYC.out _ (HX.out.alloc o)).2
    have HRA := Lib.hid (cp_ct (c := c2) hr2 HX.out hn2)
    clear a0 a1
    obtain ⟨a0, a1⟩ := HYC.out _ HX.out
    have HY := Lib.hid hy
    clear hy hr2
    by_cases hyk : y.1 = k
    · have hbq : (y.1 == k) = true := by simpa using hyk
      have HF := Lib.hid (findP_take HP.out HY.out hyk)
      obtain ⟨A', c', w', r, hc', hr', hx'⟩ := HRA.out
      have RUN := Lib.hid r
      have HR' := Lib.hid hr'
      have HX' := Lib.hid hx'
      clear hyk r hr' hx'
      go_wp2_with (first | (at_builtin; refine wpList_append_run (s := .tmp 20) (x := .tmp 25) RUN.out rfl rfl rfl rfl rfl ?_))
      refine bodyPost_ret (v := .tuple #[.slice A' n2 c', .bool true]) (by simp [results, Tryz.results24, go_sem]) rfl ?_
      exact FindGet.yes HF.out hc' HR'.out HX'.out
    · have hbq : (y.1 == k) = false := by simpa using hyk
      have HNX := Lib.hid (show ∀ y ∈ T.take (i + 1), y.1 ≠ k from by
        intro y' hy'
        rw [List.take_add_one, HY.out] at hy'
        rcases List.mem_append.1 hy' with h8 | h8
        · exact HP.out y' h8
        · simp only [Option.toList_some, List.mem_singleton] at h8
          subst h8; exact hyk)
      clear hyk
      go_wp2_with fail
      go_roundw
      case rel => exact ⟨i + 1, by have := HL.out; omega, by go_num, HNX.out, HX.out⟩
      case measure => simp only [toM]; omega
/-- slices.Clone of places. -/
theorem clone_ct (P : Nat → Prop) (w : World) (A : Option Addr) (n c : Nat) (l : List Ct) (h : kCt.row w P A n l) (hn : n ≤ 40000000) :
    Calls Tryz.prog 69 #[.slice A n c] w fun e w' => ∃ A' c', e = .returned (.slice A' n c') ∧ n ≤ c' ∧ kCt.row w' (fun j => P j ∨ w.heap.size ≤ j) A' n l ∧ Ext w w' := by
  have q38 := fun (w : World) (a : Option Addr) (n c n' c' : Nat) => Lib.run_eql_slice_nil (P := Tryz.prog) w _ _ a n c n' c' Tryz.underlying38
  cases A with
  | none =>
    obtain rfl := row_A h rfl
    have hl := List.eq_nil_of_length_eq_zero (Lay.row_len h).symm
    subst hl
    go_enter Tryz.func69, Tryz.ntmps69
    go_wp2_with fail
    go_ret
    exact ⟨none, 0, rfl, Nat.le_refl _, Lay.row_nil _ _ _, Ext.refl _⟩
  | some a =>
    obtain ⟨A', c', w', r, hc', hr', hx'⟩ := cp_ct (c := c) h (Ext.refl w) hn
    have RUN := Lib.hid r
    have HR' := Lib.hid hr'
    have HX' := Lib.hid hx'
    clear h r hr' hx'
    go_enter Tryz.func69, Tryz.ntmps69
    go_wp2_with (first | (at_builtin; refine wpList_append_run (s := .tmp 5) (x := .tmp 6) RUN.out rfl rfl rfl rfl rfl ?_))
    go_ret
    exact ⟨A', c', rfl, hc', HR'.out, HX'.out⟩
set_option maxRecDepth 100000 in
theorem fcmp_any (a b : List UInt8) (u : Value) (w : World) : Calls Tryz.prog 67 #[.agg #[.string ⟨a.toArray⟩, u], .string ⟨b.toArray⟩] w fun e w' => e = .returned (.int .i64 (Lib.compareBytes a b)) ∧ Ext w w' := by
  have HC := Lib.hid (fun W => strcmp_any a b W)
  generalize Lib.compareBytes a b = r at HC ⊢
  have HX := Lib.hid ((Ext.refl w).alloc (.cells #[.string ⟨a.toArray⟩, u] 99))
  go_enter Tryz.func67, Tryz.ntmps67
  go_wp2_with (go_at_call 68; refine (HC.out _).mono ?_; rintro e w9 ⟨rfl, rfl⟩)
  go_ret
  exact ⟨rfl, HX.out⟩
theorem bs_find {T : Tb} (hT : Reg T) {k : List UInt8} {i : Nat} (h1 : ∀ y ∈ T.take i, sLt y.1 k = true) (h2 : ∀ y ∈ T.drop i, sLt y.1 k = false) : findP T k = match T[i]? with | some y => if y.1 = k then some y.2 else none | none => none := by
  cases hy : T[i]? with
  | none =>
    have : ∀ y ∈ T, y.1 ≠ k := fun y hm => sLt_ne (h1 y (by rw [List.take_of_length_le (by rw [List.getElem?_eq_none_iff] at hy; exact hy)]; exact hm))
    exact find_nope this
  | some y =>
    simp only
    split
    · next e => exact findP_take (fun y hm => sLt_ne (h1 y hm)) hy e
    · next e =>
      refine find_nope fun y' hm => ?_
      rw [← List.take_append_drop i T] at hm
      rcases List.mem_append.1 hm with hm | hm
      · exact sLt_ne (h1 y' hm)
      · obtain ⟨hi, rfl⟩ := List.getElem?_eq_some_iff.1 hy
        have hd : T.drop i = T[i] :: T.drop (i + 1) := List.drop_eq_getElem_cons hi
        have hpw := hT.keys
        rw [← List.take_append_drop i T, List.pairwise_append, hd, List.pairwise_cons] at hpw
        have h3 := h2 T[i] (by rw [hd]; exact .head _)
        rw [hd] at hm
        rcases List.mem_cons.1 hm with rfl | hm
        · exact e
        · intro e2
          have := hpw.2.1.1 y' hm
          rw [e2, h3] at this
          cases this
theorem bs_lt {T : Tb} (hT : Reg T) {k : List UInt8} {h : Nat} {y : List UInt8 × List Ct} (hy : T[h]? = some y) (hs : sLt y.1 k = true) : ∀ y' ∈ T.take (h + 1), sLt y'.1 k = true := by
  obtain ⟨hi, rfl⟩ := List.getElem?_eq_some_iff.1 hy
  intro y' hm
  obtain ⟨j, hj⟩ := List.getElem?_of_mem hm
  rw [List.getElem?_take] at hj
  split at hj
  · next hjh =>
    obtain ⟨hj1, rfl⟩ := List.getElem?_eq_some_iff.1 hj
    rcases Nat.lt_or_ge j h with h9 | h9
    · exact sLt_trans (List.pairwise_iff_getElem.1 hT.keys j h hj1 hi h9) hs
    · obtain rfl : j = h := by omega
      exact hs
  · cases hj
theorem bs_ge {T : Tb} (hT : Reg T) {k : List UInt8} {h : Nat} {y : List UInt8 × List Ct} (hy : T[h]? = some y) (hs : sLt y.1 k = false) : ∀ y' ∈ T.drop h, sLt y'.1 k = false := by
  obtain ⟨hi, rfl⟩ := List.getElem?_eq_some_iff.1 hy
  intro y' hm
  obtain ⟨j, hj⟩ := List.getElem?_of_mem hm
  rw [List.getElem?_drop] at hj
  obtain ⟨hj1, rfl⟩ := List.getElem?_eq_some_iff.1 hj
  rcases Nat.eq_zero_or_pos j with h9 | h9
  · subst h9; exact hs
  · cases h8 : sLt T[h + j].1 k with
    | false => rfl
    | true => rw [sLt_trans (List.pairwise_iff_getElem.1 hT.keys h (h + j) hi hj1 (by omega)) h8] at hs; cases hs
def BsR (w : World) (T : Tb) (k : List UInt8) (s9 s10 : Value) (W : World) : Prop := ∃ i j : Nat, i ≤ j ∧ j ≤ T.length ∧ s9 = .int .i64 i ∧ s10 = .int .i64 j ∧ (∀ y ∈ T.take i, sLt y.1 k = true) ∧ (∀ y ∈ T.drop j, sLt y.1 k = false) ∧ Ext w W
def bsM (s9 s10 : Value) : Nat := match s9, s10 with | .int _ a, .int _ b => (b - a).toNat | _, _ => 0
set_option maxHeartbeats 4000000 in
set_option maxRecDepth 100000 in
theorem bsearch_any (w : World) (T : Tb) (k : List UInt8) (A : Option Addr) (n c M : Nat) (h : TbV w A n c T M) (hM : M ≤ 40000000) :
    Calls Tryz.prog 66 #[.slice A n c, .string ⟨k.toArray⟩, .func (.func 67) #[] #[]] w fun e w' => ∃ i : Nat, e = .returned (.tuple #[.int .i64 i, .bool (findP T k).isSome]) ∧ (∀ l, findP T k = some l → ∃ y, T[i]? = some y ∧ y.2 = l) ∧ Ext w w' := by
  have HR := Lib.hid h.row
  obtain ⟨hn, hnM, hlm⟩ := h.n
  have HL := Lib.hid hn
  have HREG := Lib.hid h.reg
  have HCP := Lib.hid (fun a u W => fcmp_any a k u W)
  clear h hn hlm
  go_enter Tryz.func66, Tryz.ntmps66
  go_wp2_with fail
  go_loopw [9, 10] (fun s9 s10 W => BsR w T k s9 s10 W) (fun s9 s10 _ => bsM s9 s10)
  case atStart => exact ⟨0, n, by omega, by rw [HL.out]; exact Nat.le_refl _, rfl, rfl, by simp, by rw [HL.out, List.drop_length]; simp, Ext.refl _⟩
  case round =>
    obtain ⟨i, j, hij, hj, rfl, rfl, hp, hq, hx⟩ := hrel
    rw [← HL.out] at hj
    have HP := Lib.hid hp
    have HQ := Lib.hid hq
    have HX := Lib.hid hx
    clear hp hq hx
    by_cases hlt : i < j
    case neg =>
      obtain rfl : i = j := by omega
      have hni : ¬ ((i : Int) < (i : Int)) := by omega
      have HF := Lib.hid (bs_find HREG.out HP.out HQ.out)
      by_cases hin : i < n
      · obtain ⟨y, hy⟩ : ∃ y, T[i]? = some y := ⟨_, List.getElem?_eq_getElem (by have := HL.out; omega)⟩
        obtain ⟨b, off, A2, n2, c2, rfl, hb, a0, a1, _, _⟩ := it_at (Lay.row_ext HR.out HX.out) hy
        have HY := Lib.hid hy
        have hinI : (i : Int) < (n : Int) := by omega
        have HCY := Lib.hid (fun W => HCP.out y.1 (.slice A2 n2 c2) W)
        rw [hy] at HF
        clear hy
        by_cases hk : y.1 = k
        · have h0 : Lib.compareBytes y.1 k = 0 := (cmpB_eq _ _).2 hk
          have HF' := Lib.hid (HF.out.trans (if_pos hk))
          rw [h0] at HCY
          clear hk h0
          go_wp2_with (first | (go_at_call 67; refine (HCY.out _).mono ?_; rintro e w2 ⟨rfl, hx2⟩; have HX2 := Lib.hid hx2; clear hx2))
          refine bodyPost_ret (v := .tuple #[.int .i64 (i : Int), .bool true]) (by simp [results, Tryz.results66, go_sem]) rfl ?_
          exact ⟨i, by rw [HF'.out]; rfl, fun l hl => ⟨y, HY.out, by rw [HF'.out] at hl; exact Option.some.inj hl⟩, HX.out.trans HX2.out⟩
        · have h0 : Lib.compareBytes y.1 k ≠ 0 := fun e => hk ((cmpB_eq _ _).1 e)
          have HF' := Lib.hid (HF.out.trans (if_neg hk))
          generalize Lib.compareBytes y.1 k = r at HCY h0
          have h00 : (r == 0) = false := by simpa using h0
          clear hk h0
          go_wp2_with (first | (go_at_call 67; refine (HCY.out _).mono ?_; rintro e w2 ⟨rfl, hx2⟩; have HX2 := Lib.hid hx2; clear hx2))
          refine bodyPost_ret (v := .tuple #[.int .i64 (i : Int), .bool false]) (by simp [results, Tryz.results66, go_sem]) rfl ?_
          exact ⟨i, by rw [HF'.out]; rfl, fun l hl => (by rw [HF'.out] at hl; cases hl), HX.out.trans HX2.out⟩
      · have hinI : ¬ ((i : Int) < (n : Int)) := by omega
        have hinb : decide ((i : Int) < (n : Int)) = false := decide_eq_false hinI
        have HF' := Lib.hid (show findP T k = none by have h9 := HF.out; rw [List.getElem?_eq_none (by have := HL.out; omega)] at h9; exact h9)
        go_wp2_with fail
        refine bodyPost_ret (v := .tuple #[.int .i64 (i : Int), .bool false]) (by simp [results, Tryz.results66, go_sem]) rfl ?_
        exact ⟨i, by rw [HF'.out]; rfl, fun l hl => (by rw [HF'.out] at hl; cases hl), HX.out⟩
    have hI : (i : Int) < (j : Int) := by omega
    obtain ⟨h, hh, hih, hhj⟩ : ∃ h : Nat, ((i : Int) + (j : Int)) / 2 = (h : Int) ∧ i ≤ h ∧ h < j := ⟨(i + j) / 2, by omega, by omega, by omega⟩
    obtain ⟨y, hy⟩ : ∃ y, T[h]? = some y := ⟨_, List.getElem?_eq_getElem (by have := HL.out; omega)⟩
    obtain ⟨b, off, A2, n2, c2, rfl, hb, a0, a1, _, _⟩ := it_at (Lay.row_ext HR.out HX.out) hy
    have hhI : (h : Int) < (n : Int) := by omega
    have HCY := Lib.hid (fun W => HCP.out y.1 (.slice A2 n2 c2) W)
    have HLE := Lib.hid (cmpB_lt y.1 k)
    generalize Lib.compareBytes y.1 k = r at HCY HLE
    have hw1 : IntKind.i64.wrap ((h : Int) + 1) = (h : Int) + 1 := IntWalk.i64_in _ (by omega)
    cases hs : sLt y.1 k with
    | true =>
      have hr0 : r < 0 := HLE.out.2 hs
      have HN := Lib.hid (bs_lt HREG.out hy hs)
      clear hs hy
      go_wp2_with (first | (go_at_call 67; refine (HCY.out _).mono ?_; rintro e w2 ⟨rfl, hx2⟩; have HX2 := Lib.hid hx2; clear hx2))
      go_roundw
      case rel => exact ⟨h + 1, j, by omega, by have := HL.out; omega, by go_num, rfl, HN.out, HQ.out, HX.out.trans HX2.out⟩
      case measure => simp only [bsM]; omega
    | false =>
      have hr0 : ¬ r < 0 := fun h9 => by rw [HLE.out.1 h9] at hs; cases hs
      have HN := Lib.hid (bs_ge HREG.out hy hs)
      clear hs hy
      go_wp2_with (first | (go_at_call 67; refine (HCY.out _).mono ?_; rintro e w2 ⟨rfl, hx2⟩; have HX2 := Lib.hid hx2; clear hx2))
      go_roundw
      case rel => exact ⟨i, h, hih, by have := HL.out; omega, rfl, rfl, HP.out, HN.out, HX.out.trans HX2.out⟩
      case measure => simp only [bsM]; omega
set_option maxHeartbeats 4000000 in
set_option maxRecDepth 100000 in
/-- index.Find. -/
theorem ifind_any (w : World) (T : Tb) (k : List UInt8) (A : Option Addr) (n c M : Nat) (h : TbV w A n c T M) (hM : M ≤ 40000000) : Calls Tryz.prog 23 #[.slice A n c, .string ⟨k.toArray⟩] w (FindGet w T k) := by
  have HB := Lib.hid (bsearch_any w T k A n c M h hM)
  have HR := Lib.hid h.row
  obtain ⟨hn, hnM, hlm⟩ := h.n
  have HL := Lib.hid hn
  have HM := Lib.hid hlm
  clear h hn hlm
  cases hf : findP T k with
  | none =>
    have HF := Lib.hid hf
    clear hf
    rw [HF.out] at HB
    go_enter Tryz.func23, Tryz.ntmps23
    go_wp2_with (first | (go_at_call 66; refine (HB.out).mono ?_; rintro e w2 ⟨i, rfl, _, hx2⟩; have HX2 := Lib.hid hx2; clear hx2))
    refine bodyPost_ret (v := .tuple #[.slice none 0 0, .bool false]) (by simp [results, Tryz.results23, go_sem]) rfl ?_
    exact FindGet.no HF.out HX2.out
  | some l =>
    have HF := Lib.hid hf
    clear hf
    rw [HF.out] at HB
    go_enter Tryz.func23, Tryz.ntmps23
    go_upto_region 4 with (first | (go_at_call 66; refine (HB.out).mono ?_; rintro e w2 ⟨i, rfl, hl, hx2⟩; have HX2 := Lib.hid hx2; have HLI := Lib.hid (hl l rfl); clear hl hx2))
    obtain ⟨y, hy, hyl⟩ := HLI.out
    obtain ⟨b, off, A2, n2, c2, rfl, hb, a0, a1, hnc2, hr2⟩ := it_at (Lay.row_ext HR.out HX2.out) hy
    have hin : (i : Int) < (n : Int) := by have := (List.getElem?_eq_some_iff.1 hy).1; have := HL.out; omega
    have hn2 : n2 ≤ 40000000 := by rw [Lay.row_len hr2]; exact Nat.le_trans (HM.out y (List.mem_of_getElem? hy)) hM
    rw [hyl] at hr2
    have HC := Lib.hid (clone_ct _ w2 A2 n2 c2 l hr2 hn2)
    clear hy hyl hr2
    go_wp2_with (first | (go_at_call 69; refine (HC.out).mono ?_; rintro e w3 ⟨A3, c3, rfl, hc3, hr3, hx3⟩; have HR3 := Lib.hid hr3; have HX3 := Lib.hid hx3; clear hr3 hx3))
    refine bodyPost_ret (v := .tuple #[.slice A3 n2 c3, .bool true]) (by simp [results, Tryz.results23, go_sem]) rfl ?_
    exact FindGet.yes HF.out hc3 HR3.out (HX2.out.trans HX3.out)
end Go.Proofs.YtdbnddmncbjobaaGreatDoor

/- A row of items as they lie: sorted by their keys. -/
namespace Go.Proofs.YtdbnddmncbjobaaGreatDoor
open Go Go.RowKit Go.Sort
attribute [local go_sem] Oper.semAt_some

theorem itCs_one (x : ItV) : ∀ u ∈ itCs x, u.oneCell' = true := fun u hu => by
  simp only [itCs, List.mem_cons, List.not_mem_nil, or_false] at hu
  rcases hu with rfl | rfl <;> rfl
/-- Items as they lie: a key and a slice. -/
def kIv : Lay ItV where
  sz := 2
  rep _ _ x cs := cs = itCs x
  len h := by subst h; rfl
  one h := by subst h; exact itCs_one _
  keep h _ _ := h
  mono h _ := h
theorem iv_cells {W : World} {B : Nat} {P : Nat → Prop} {v : Value} {xs : List ItV} (h : kIv.own 99 W B P v xs) : W.ownsRow B 99 2 v xs.length (xs.flatMap itCs) := by
  obtain ⟨ds, h1, h2, h3⟩ := h
  have e : gcells ccf ds = xs.flatMap itCs := by
    have : ∀ (ds : List (Cs kIv.sz)) (xs : List ItV), ds.length = xs.length → (∀ (i : Nat) (d : Cs kIv.sz) (x : ItV), ds[i]? = some d → xs[i]? = some x → ccf d = itCs x) → gcells ccf ds = xs.flatMap itCs := by
      intro ds
      induction ds with
      | nil => intro xs hl _; cases xs with
        | nil => rfl
        | cons x xs => simp at hl
      | cons d ds ih => intro xs hl hh; cases xs with
        | nil => simp at hl
        | cons x xs =>
          have h0 := hh 0 d x rfl rfl
          have h1 := ih xs (by simpa using hl) fun i d x hd hx => hh (i + 1) d x (by simpa using hd) (by simpa using hx)
          unfold gcells at h1 ⊢
          rw [List.flatMap_cons, List.flatMap_cons, h0, h1]
    exact this ds xs h2 fun i d x hd hx => h3 i d x hd hx
  unfold OL at h1
  rw [h2, e] at h1
  exact h1
def ivC (x : ItV) : Cs kIv.sz := ⟨itCs x, rfl, itCs_one x⟩
theorem gcells_ivC (xs : List ItV) : gcells ccf (xs.map ivC) = xs.flatMap itCs := by
  induction xs with
  | nil => rfl
  | cons x xs ih => unfold gcells at ih ⊢; rw [List.map_cons, List.flatMap_cons, List.flatMap_cons, ih]; rfl
theorem cells_iv {W : World} {B : Nat} {P : Nat → Prop} {v : Value} {xs : List ItV} (h : W.ownsRow B 99 2 v xs.length (xs.flatMap itCs)) : kIv.own 99 W B P v xs := by
  refine ⟨xs.map ivC, ?_, List.length_map _, fun i d x hd hx => ?_⟩
  · unfold OL
    rw [gcells_ivC, List.length_map]
    exact h
  · rw [List.getElem?_map, hx] at hd
    simp only [Option.map_some, Option.some.injEq] at hd
    subst hd
    rfl
instance : Inhabited ItV := ⟨⟨[], none, 0, 0⟩⟩
theorem sort_iown (w : World) (B : Nat) (v : Value) (xs : List ItV) (h : kIv.own 99 w B (fun _ => False) v xs) (hne : xs ≠ []) (hl : xs.length ≤ 100000000) :
    Calls Tryz.prog 114 #[v, .func (.func 115) #[] #[]] w fun e w' => e = .returned (.tuple #[]) ∧ ∃ ys, ys.Perm xs ∧ (ys.Pairwise fun a b => sLt b.1 a.1 = false) ∧ kIv.own 99 w' B (fun _ => False) v ys ∧ w.grownBy w' v.ownBlock := by
  have hc := iv_cells h
  rcases hc.2 with ⟨_, h0⟩ | ⟨g, cap, cur, rfl, hbase, hb, h1, h2, h3, h4⟩
  · exact absurd (List.length_eq_zero_iff.1 h0) hne
  have hk : ∀ x, (itCs x).length = 2 := fun _ => rfl
  have hg : g < w.heap.size := (Array.getElem?_eq_some_iff.1 hb).1
  have hs := sort_it g cap xs.toArray w (holdsK_block hk hb h4) hg (by simp; omega)
  rw [List.size_toArray] at hs
  refine hs.mono ?_
  rintro e w' ⟨he, d', n, os, hp, hsr, rfl⟩
  have hsz : d'.size = xs.length := by have := hp.1; simpa using this
  have hp' : d'.toList.Perm xs := by
    have := perm_all (d := xs.toArray) (d' := d') (by simpa using hp)
    simpa using this
  refine ⟨he, d'.toList, hp', ?_, ?_, ?_⟩
  · refine (sorted_all (by rw [hsz]) hsr).imp fun {a b} hab => ?_
    simp only [ltOf, decide_eq_false_iff_not, cmpB_lt] at hab
    simpa using hab
  · have h9 := ownsRow_sortedK (enc := itCs) hk (w := w) (base := B) (g := g) (cap := cap) (n := n) (os := os) (ts := d'.toList) (m := xs.length) (by simpa using hsz) hbase hb h1 h2 h3
    have e2 : d'.toList.length = xs.length := by simpa using hsz
    rw [← e2] at h9 ⊢
    exact cells_iv (by simpa using h9)
  · exact grown_sortedK d'
set_option maxHeartbeats 2000000 in
theorem ins_none (p : Option Addr) (cap : Nat) (fv : Value) (w : World) : Calls Tryz.prog 170 #[.slice p 0 cap, .int .i64 0, .int .i64 0, fv] w fun e w' => e = .returned (.tuple #[]) ∧ w' = w := by
  go_enter Tryz.func170, Tryz.ntmps170
  go_wp2
  refine wp_loop_rounds 1 ?_
  rw [rounds_succ]
  go_wp2
  go_end0
  exact ⟨rfl, rfl⟩
set_option maxHeartbeats 2000000 in
theorem pdq_none (p : Option Addr) (cap : Nat) (lim : Int) (fv : Value) (w : World) : Calls Tryz.prog 144 #[.slice p 0 cap, .int .i64 0, .int .i64 0, .int .i64 lim, fv] w fun e w' => e = .returned (.tuple #[]) ∧ w' = w := by
  have HI := Lib.hid (fun W => ins_none p cap fv W)
  go_enter Tryz.func144, Tryz.ntmps144
  go_wp2
  refine wp_loop_rounds 1 ?_
  rw [rounds_succ]
  go_wp2_with (first | (go_at_call 170; refine (HI.out _).mono ?_; rintro e w' ⟨rfl, rfl⟩))
  (try simp only [Exit.inBlock, Exit.then]); refine bodyPost_ret (results_none rfl _ _ _) rfl ?_
  exact ⟨rfl, rfl⟩
theorem sort_none (p : Option Addr) (cap : Nat) (fv : Value) (w : World) : Calls Tryz.prog 114 #[.slice p 0 cap, fv] w fun e w' => e = .returned (.tuple #[]) ∧ w' = w := by
  have HP := Lib.hid (fun lim W => pdq_none p cap lim fv W)
  have HB := Lib.hid (fun W => (show Calls Tryz.prog 141 #[.int .u64 0] W fun e w' => e = .returned (.int .i64 (Lib.bitLen 0 : Nat)) ∧ w' = W from Any.bits_Len (SlLaysF0.n15.bits (P := Tryz.prog) (ρ := Tryz.sortIt_ren) { Tryz.sortIt with }) 0 W (by omega) (by omega)))
  go_enter Tryz.func114, Tryz.ntmps114
  go_wp2_with (first
    | (go_at_call 141; refine (HB.out _).mono ?_; rintro e w' ⟨rfl, rfl⟩)
    | (go_at_call 144; refine (HP.out _ _).mono ?_; rintro e w' ⟨rfl, rfl⟩))
  go_end0
  exact ⟨rfl, rfl⟩
end Go.Proofs.YtdbnddmncbjobaaGreatDoor

/- The reference's Merge: walked. -/
namespace Go.Proofs.YtdbnddmncbjobaaGreatDoor
open Go Go.RowKit
attribute [local go_sem] Oper.semAt_some

theorem tab_snoc (hs : List (List UInt8 × Ct)) (k : List UInt8) (c : Ct) : tabP (hs ++ [(k, c)]) = putP (tabP hs) k c := by
  unfold tabP; rw [List.foldl_append]; rfl
/-- The table of hits in memory. -/
abbrev TbH (W : World) (A : Option Addr) (n c : Nat) (hs : List (List UInt8 × Ct)) : Prop := TbV W A n c (tabP hs) hs.length
theorem put_hs {w : World} {A : Option Addr} {n c : Nat} {hs : List (List UInt8 × Ct)} (h : TbH w A n c hs) (hM : hs.length ≤ 40000000) (k : List UInt8) (hk : k.length ≤ 1000) (x : Ct) :
    Calls Tryz.prog 62 #[.slice A n c, .string ⟨k.toArray⟩, .agg #[.int .i64 x.br, .int .i64 x.nu, .int .i64 x.su, .int .i64 x.li]] w fun e w' => ∃ A' n' c', e = .returned (.slice A' n' c') ∧ TbH w' A' n' c' (hs ++ [(k, x)]) ∧ Ext w w' := by
  refine (put_tb h hM k hk x).mono ?_
  rintro e w' ⟨A', n', c', rfl, hT, hx⟩
  refine ⟨A', n', c', rfl, ?_, hx⟩
  unfold TbH
  rw [tab_snoc, List.length_append]
  exact hT
theorem prs_take {U : Tb} {i : Nat} {x : List UInt8 × List Ct} (h : U[i]? = some x) : prs (U.take (i + 1)) = prs (U.take i) ++ x.2.map fun c => (x.1, c) := by
  rw [List.take_add_one, h, prs_append]
  simp [prs]
theorem prs_take_le (U : Tb) (i : Nat) : (prs (U.take i)).length ≤ (prs U).length := by
  conv => rhs; rw [← List.take_append_drop i U]
  rw [prs_append, List.length_append]; omega
def MoR (w : World) (U : Tb) (N : Nat) (s5 s6 : Value) (W : World) : Prop := ∃ (i : Nat) (A : Option Addr) (n c : Nat), i ≤ N ∧ s6 = .int .i64 i ∧ s5 = .slice A n c ∧ TbH W A n c (prs (U.take i)) ∧ Ext w W
def MiR (wi : World) (hs : List (List UInt8 × Ct)) (x : List UInt8 × List Ct) (s5 s8 : Value) (W : World) : Prop := ∃ (k : Nat) (A : Option Addr) (n c : Nat), k ≤ x.2.length ∧ s8 = .int .i64 k ∧ s5 = .slice A n c ∧ TbH W A n c (hs ++ (x.2.take k).map fun c => (x.1, c)) ∧ Ext wi W
set_option maxHeartbeats 4000000 in
set_option maxRecDepth 100000 in
theorem rmerge_any (w : World) (A A' : Option Addr) (n n' c c' M M' : Nat) (S T : Tb) (hS : TbV w A n c S M) (hT : TbV w A' n' c' T M') (hM : M + M' ≤ 40000000) :
    Calls Tryz.prog 26 #[.slice A n c, .slice A' n' c'] w fun e w' => ∃ A1 n1 c1, e = .returned (.slice A1 n1 c1) ∧ TbV w' A1 n1 c1 (mrgP S T) (M + M') ∧ Ext w w' := by
  have HS := Lib.hid hS
  have HT := Lib.hid hT
  obtain ⟨hn, hnM, _⟩ := hS.n
  obtain ⟨hn', hnM', _⟩ := hT.n
  have HN := Lib.hid hn
  have HN' := Lib.hid hn'
  obtain ⟨U, hU⟩ : ∃ U, S ++ T = U := ⟨_, rfl⟩
  have HUL := Lib.hid (show U.length = n + n' by rw [← hU, List.length_append, hn, hn'])
  have HUP := Lib.hid (show (prs U).length ≤ M + M' by rw [← hU, prs_append, List.length_append]; have := hS.len; have := hT.len; omega)
  have HUK := Lib.hid (show ∀ x ∈ U, x.1.length ≤ 1000 by
    rw [← hU]; intro x hx
    rcases List.mem_append.1 hx with hx | hx
    · exact hS.key x hx
    · exact hT.key x hx)
  have HUS := Lib.hid (show ∀ i, i < n → U[i]? = S[i]? from fun i hi => by rw [← hU, List.getElem?_append_left (by omega)])
  have HUT := Lib.hid (show ∀ i, n ≤ i → U[i]? = T[i - n]? from fun i hi => by rw [← hU, List.getElem?_append_right (by omega), hn])
  have HMR := Lib.hid (show tabP (prs U) = mrgP S T by unfold mrgP; rw [← hU, prs_append])
  clear hS hT hn hn' hU
  have hwn : IntKind.i64.wrap ((n : Int) + (n' : Int)) = (n : Int) + (n' : Int) := IntWalk.i64_in _ (by omega)
  go_enter Tryz.func26, Tryz.ntmps26
  go_wp2_with fail
  go_loopw [5, 6] (fun s5 s6 W => MoR w U (n + n') s5 s6 W) (fun _ s6 _ => toM (n + n') s6)
  case atStart => exact ⟨0, none, 0, 0, by omega, rfl, rfl, TbV.nil _ _, Ext.refl _⟩
  case round =>
    obtain ⟨i, A1, n1, c1, hi, rfl, rfl, hT1, hx1⟩ := hrel
    have HT1 := Lib.hid hT1
    have HX1 := Lib.hid hx1
    clear hT1 hx1
    have hw1 : IntKind.i64.wrap ((i : Int) + 1) = (i : Int) + 1 := IntWalk.i64_in _ (by omega)
    by_cases hlt : i < n + n'
    case neg =>
      have hni : ¬ ((i : Int) < (n : Int) + (n' : Int)) := by omega
      go_wp2_with fail
      go_ret
      have h9 := HT1.out
      rw [List.take_of_length_le (by rw [HUL.out]; omega)] at h9
      refine ⟨A1, n1, c1, rfl, ?_, HX1.out⟩
      rw [← HMR.out]
      exact h9.mono HUP.out
    have hI : (i : Int) < (n : Int) + (n' : Int) := by omega
    obtain ⟨x, hx⟩ : ∃ x, U[i]? = some x := ⟨_, List.getElem?_eq_getElem (by rw [HUL.out]; exact hlt)⟩
    have HUX := Lib.hid hx
    have hxk : x.1.length ≤ 1000 := HUK.out x (List.mem_of_getElem? hx)
    have HXK := Lib.hid hxk
    have HHS := Lib.hid (show (prs (U.take i)).length + x.2.length ≤ 40000000 by
      have := prs_take hx
      have h8 := prs_take_le U (i + 1)
      rw [this, List.length_append, List.length_map] at h8
      have := HUP.out
      omega)
    have HNX := Lib.hid (prs_take hx)
    generalize prs (U.take i) = hs at HT1 HHS HNX
    obtain ⟨b, off, A2, n2, c2, j, hb, a0, a1, hnc2, hr2, hbr⟩ : ∃ (b off : Nat) (A2 : Option Addr) (n2 c2 j : Nat), b < w.heap.size ∧ w.cell? ⟨b, off + j * 2, none⟩ = some (.string ⟨x.1.toArray⟩) ∧ w.cell? ⟨b, off + j * 2 + 1, none⟩ = some (.slice A2 n2 c2) ∧ n2 ≤ c2 ∧ kCt.row w (fun _ => True) A2 n2 x.2 ∧
        ((i < n ∧ j = i ∧ A = some ⟨b, off, none⟩) ∨ (n ≤ i ∧ j = i - n ∧ A' = some ⟨b, off, none⟩)) := by
      by_cases hin : i < n
      · rw [HUS.out i hin] at hx
        obtain ⟨b, off, A2, n2, c2, e, hb, a0, a1, hnc2, hr2⟩ := it_at HS.out.row hx
        exact ⟨b, off, A2, n2, c2, i, hb, a0, a1, hnc2, hr2, .inl ⟨hin, rfl, e⟩⟩
      · rw [HUT.out i (by omega)] at hx
        obtain ⟨b, off, A2, n2, c2, e, hb, a0, a1, hnc2, hr2⟩ := it_at HT.out.row hx
        exact ⟨b, off, A2, n2, c2, i - n, hb, a0, a1, hnc2, hr2, .inr ⟨by omega, rfl, e⟩⟩
    have hY0 : ∀ o, (wr.alloc o).cell? ⟨b, off + j * 2, none⟩ = some (.string ⟨x.1.toArray⟩) := fun o => ((HX1.out.alloc o).cells.1 b _ hb).trans a0
    have hY1 : ∀ o, (wr.alloc o).cell? ⟨b, off + j * 2 + 1, none⟩ = some (.slice A2 n2 c2) := fun o => ((HX1.out.alloc o).cells.1 b _ hb).trans a1
    obtain ⟨z, hz⟩ : ∃ z, wr.heap.size = z := ⟨_, rfl⟩
    obtain ⟨w2, hw2⟩ : ∃ w2, wr.alloc (.cells #[.string ⟨x.1.toArray⟩, .slice A2 n2 c2] 99) = w2 := ⟨_, rfl⟩
    have hx2 : Ext wr w2 := by rw [← hw2]; exact (Ext.refl wr).alloc _
    have hB : w2.heap[z]? = some (.cells #[.string ⟨x.1.toArray⟩, .slice A2 n2 c2] 99 (0, 0)) := by rw [← hw2, ← hz]; exact heap_alloc_new _ _
    have hzl := lt_of_block hB
    have HQ := Lib.hid (fun X (hX : Ext w2 X) => (show X.cell? ⟨z, 0, none⟩ = some (.string ⟨x.1.toArray⟩) ∧ X.cell? ⟨z, 1, none⟩ = some (.slice A2 n2 c2) from
      have h9 := (hX.block _ hzl).trans hB
      ⟨cell_of h9 (i := 0) rfl, cell_of h9 (i := 1) rfl⟩))
    have HR2 := Lib.hid (fun X (hX : Ext w2 X) => Lay.row_ext hr2 ((HX1.out.trans hx2).trans hX))
    have HN2 := Lib.hid (Lay.row_len hr2)
    have HT2 := Lib.hid (HT1.out.ext hx2)
    have HX2 := Lib.hid (HX1.out.trans hx2)
    clear hx hxk a0 a1 hr2 hx2 hB hzl HT1 HUP HUK HUS HUT HMR HS HT
    rcases hbr with ⟨hin, rfl, rfl⟩ | ⟨hin, hj, rfl⟩
    case' inl =>
      have hin' : (j : Int) < (n : Int) := by omega
      go_wp2_with fail
    case' inr =>
      have hin' : ¬ ((i : Int) < (n : Int)) := by omega
      have hji : IntKind.i64.wrap ((i : Int) - (n : Int)) = (j : Int) := by rw [hj]; rw [IntWalk.i64_in _ (by omega)]; omega
      have hjn : (j : Int) < (n' : Int) := by omega
      clear hj
      go_wp2_with fail
    all_goals
      go_loopw [5, 8] (fun s5 s8 W => MiR w2 hs x s5 s8 W) (fun _ s8 _ => toM n2 s8)
      case atStart => exact ⟨0, A1, n1, c1, by omega, rfl, rfl, by simpa using HT2.out, Ext.refl _⟩
      case round =>
        obtain ⟨k, A3, n3, c3, hk, rfl, rfl, hT3, hx3⟩ := hrel
        rename World => wq
        have HT3 := Lib.hid hT3
        have HX3 := Lib.hid hx3
        obtain ⟨q0, q1⟩ := HQ.out _ hx3
        clear hT3 hx3
        have hwk : IntKind.i64.wrap ((k : Int) + 1) = (k : Int) + 1 := IntWalk.i64_in _ (by have := HHS.out; omega)
        by_cases hk2 : k < n2
        case neg =>
          have hnk : ¬ ((k : Int) < (n2 : Int)) := by omega
          have HT4 := Lib.hid (show TbH wq A3 n3 c3 (hs ++ x.2.map fun c => (x.1, c)) from by
            have h9 := HT3.out
            rwa [List.take_of_length_le (by have := HN2.out; omega)] at h9)
          rw [← HNX.out] at HT4
          go_wp2_with fail
          go_roundw
          case rel => exact ⟨_ + 1, A3, n3, c3, by omega, by go_num, rfl, HT4.out, HX2.out.trans HX3.out⟩
          case measure => simp only [toM]; omega
        have hkI : (k : Int) < (n2 : Int) := by omega
        obtain ⟨y, hy⟩ : ∃ y, x.2[k]? = some y := ⟨_, List.getElem?_eq_getElem (by have := HN2.out; omega)⟩
        obtain ⟨b2, off2, rfl, hb2, _, e0, e1, e2, e3⟩ := ct_at (HR2.out _ HX3.out) hy
        have HPU := Lib.hid (put_hs (HT3.out.ext (Ext.refl wq).drew) (by rw [List.length_append, List.length_map, List.length_take]; have := HHS.out; omega) x.1 HXK.out y)
        have HTK := Lib.hid (show (hs ++ (x.2.take k).map fun c => (x.1, c)) ++ [(x.1, y)] = hs ++ (x.2.take (k + 1)).map fun c => (x.1, c) from by rw [List.take_add_one, hy]; simp)
        clear hy
        go_upto_region 12 with (fail)
        go_still_tail 8, (by kernel_rfl)
        change wpList _ _ _ _ _ wq.drew
        go_wp2_with (first
          | (go_at_call 62; refine (HPU.out).mono ?_; rintro e w5 ⟨A5, n5, c5, rfl, hT5, hx5⟩; have HT5 := Lib.hid hT5; have HX5 := Lib.hid hx5; clear hT5 hx5))
        go_roundw
        case rel => exact ⟨k + 1, A5, n5, c5, by have := HN2.out; omega, by go_num, rfl, by have h9 := HT5.out; rw [HTK.out] at h9; exact h9, (HX3.out.drew).trans HX5.out⟩
        case measure => simp only [toM]; omega
end Go.Proofs.YtdbnddmncbjobaaGreatDoor

/- The items of a map of rows: walked. -/
namespace Go.Proofs.YtdbnddmncbjobaaGreatDoor
open Go Go.RowKit Go.Maps Go.Sort
attribute [local go_sem] Oper.semAt_some

theorem items_tab {hs : List (List UInt8 × Ct)} {T : Tb} (h1 : ∀ x ∈ T, csOf hs x.1 ≠ [] ∧ ∃ ys : List Ct, ys.Perm (csOf hs x.1) ∧ (ys.Pairwise fun a b => ¬ CLt b a) ∧ x.2 = dedP ys) (h2 : ∀ k, csOf hs k ≠ [] → ∃ l, (k, l) ∈ T) (h3 : T.Pairwise fun x y => sLt x.1 y.1 = true) : T = tabP hs := by
  have hR : Reg T := by
    refine ⟨h3, fun x hx => ?_, fun x hx => ?_⟩
    · obtain ⟨h4, ys, h5, h6, h7⟩ := h1 x hx
      rw [h7]
      exact ded_ne fun e => h4 (by rw [e] at h5; exact List.Perm.nil_eq h5 ▸ rfl)
    · obtain ⟨h4, ys, h5, h6, h7⟩ := h1 x hx
      rw [h7]; exact ded_rise _ h6
  refine tab_eq hR fun k c => ?_
  rw [← mem_csOf]
  constructor
  · rintro ⟨l, hm, hc⟩
    obtain ⟨h4, ys, h5, h6, h7⟩ := h1 _ hm
    simp only at h7 h5
    rw [h7, ded_mem] at hc
    exact h5.mem_iff.1 hc
  · intro hc
    have hne : csOf hs k ≠ [] := fun e => by rw [e] at hc; cases hc
    obtain ⟨l, hm⟩ := h2 k hne
    obtain ⟨h4, ys, h5, h6, h7⟩ := h1 _ hm
    simp only at h7 h5
    exact ⟨l, hm, by rw [h7, ded_mem]; exact h5.mem_iff.2 hc⟩
theorem key_inv {x : Value} {kl : Lit} (h : keyOf Tryz.prog 9 x = some kl) : ∃ s : List UInt8, x = .string ⟨s.toArray⟩ ∧ kl = .string s ∧ s.length ≤ maxLen := by
  obtain ⟨⟨s⟩, rfl, rfl, hs⟩ := WideMaps.string_of_keyOf Tryz.underlying9 h
  exact ⟨s.toList, by simp, rfl, by simpa [ByteArray.size] using hs⟩
theorem same_str (k s : List UInt8) : (Lit.string k).sameKey (.string s) = decide (k = s) := by
  rw [Bool.eq_iff_iff]; simp [Lit.sameKey]
def itS (x : ItV) : Value := .slice x.2.1 x.2.2.1 x.2.2.2
/-- What holds of the rows of the map all the time. -/
structure ItmG (B b r : Nat) (hs : List (List UInt8 × Ct)) (D : DV) : Prop where
  ap : ∀ k k' v v', k ≠ k' → csOf hs k ≠ [] → csOf hs k' ≠ [] → AtK D k v → AtK D k' v' → ∀ j, v.ownBlock = some j → v'.ownBlock ≠ some j
  lt : ∀ k v, csOf hs k ≠ [] → AtK D k v → ∀ j, v.ownBlock = some j → B ≤ j ∧ j < r
  bB : b < B
  Br : B ≤ r
/-- Between two rounds of the range over the map. -/
structure ItmR (B b r n : Nat) (hs : List (List UInt8 × Ct)) (D : DV) (w : World) (left : Lit → Bool) (cnt : Nat) (out : Value) (its : List ItV) (W : World) : Prop where
  rg : W.ranges Tryz.prog 9 rV b r n D left cnt
  todo : ∀ k v, csOf hs k ≠ [] → left (.string k) = true → AtK D k v → kCt.own 69 W B (fun _ => False) v (csOf hs k)
  own : kIv.own 99 W (r + 1) (fun _ => False) out its
  done : ∀ x ∈ its, csOf hs x.1 ≠ [] ∧ left (.string x.1) = false ∧ (∀ v, AtK D x.1 v → v.ownBlock = (itS x).ownBlock) ∧ (∃ v, AtK D x.1 v) ∧ ∃ ys : List Ct, ys.Perm (csOf hs x.1) ∧ (ys.Pairwise fun a b => ¬ CLt b a) ∧ kCt.own 69 W B (fun _ => False) (itS x) (dedP ys)
  all : ∀ k, csOf hs k ≠ [] → left (.string k) = false → ∃ x ∈ its, x.1 = k
  nd : (its.map (·.1)).Nodup
  bel : Below B w W
theorem ItmR.len {B b r n : Nat} {hs : List (List UInt8 × Ct)} {D : DV} {w : World} {left : Lit → Bool} {cnt : Nat} {out : Value} {its : List ItV} {W : World} (h : ItmR B b r n hs D w left cnt out its W) : its.length ≤ hs.length := by
  have := nodup_sub_len (l := its.map (·.1)) (l' := hs.map (·.1)) h.nd fun k hk => by
    obtain ⟨x, hx, rfl⟩ := List.mem_map.1 hk
    obtain ⟨c, hc⟩ := List.exists_mem_of_ne_nil _ (h.done x hx).1
    exact List.mem_map.2 ⟨(x.1, c), (mem_csOf hs x.1 c).1 hc, rfl⟩
  simpa using this
theorem ItmR.step {B b r n : Nat} {hs : List (List UInt8 × Ct)} {D : DV} {w : World} {left : Lit → Bool} {cnt : Nat} {out : Value} {its : List ItV} {W : World} (G : ItmG B b r hs D) (h : ItmR B b r n hs D w left cnt out its W) (hn : hs.length ≤ 40000000)
    {s : List UInt8} {v : Value} (hsl : left (.string s) = true) (hcs : csOf hs s ≠ []) (hv : AtK D s v) {W1 W3 : World} {cnt1 : Nat} (hrg1 : W1.ranges Tryz.prog 9 rV b r n D (fun z => left z && !z.sameKey (.string s)) cnt1) (g1 : W.grownBy W1 (some r)) (g3 : W1.grownBy W3 v.ownBlock)
    {A : Option Addr} {m c : Nat} (hvb : (Value.slice A m c).ownBlock = v.ownBlock) {ys : List Ct} (hp : ys.Perm (csOf hs s)) (hpw : ys.Pairwise fun a b => ¬ CLt b a) (ho : kCt.own 69 W3 B (fun _ => False) (.slice A m c) (dedP ys)) :
    ∃ A' c' W4, (Builtin.append_ #[33, 33] 33 #[out, .slice (some ⟨W3.heap.size, 0, none⟩) 1 1]).run Tryz.prog (W3.alloc (.cells #[.string ⟨s.toArray⟩, .slice A m c] 99)) = .ok (.slice A' (its.length + 1) c') W4 ∧
      ItmR B b r n hs D w (fun z => left z && !z.sameKey (.string s)) cnt1 (.slice A' (its.length + 1) c') (its ++ [(s, A, m, c)]) W4 := by
  have hlt := G.lt s v hcs hv
  have hol := Lay.own_lt h.own
  have hrW := h.rg.lt
  have hlen := h.len
  have s13 : W.heap.size ≤ W3.heap.size := Nat.le_trans g1.size g3.size
  have k13 : ∀ j, j < W.heap.size → j ≠ r → v.ownBlock ≠ some j → W3.heap[j]? = W.heap[j]? := fun j hj h1 h2 =>
    (g3.block j (Nat.lt_of_lt_of_le hj g1.size) (fun e => h2 e.symm)).trans (g1.block j hj (fun e => h1 (Option.some.inj e)))
  have ho3 : kIv.own 99 W3 (r + 1) (fun _ => False) out its := Lay.own_keep h.own s13 fun j hj hjl => by
    rcases hj with hj | hj
    · exact hj.elim
    · have := hol j hj
      exact k13 j hjl (by omega) fun e => by have := hlt j e; omega
  obtain ⟨A', c', W4, run, o4, b4, k4, s4, n4⟩ := own_app1 (k := kIv) (Pr := Tryz.prog) (t := 33) (e := 99) Tryz.underlying33 info99 rfl (by decide) (by omega) ho3 (by omega) (cs := #[.string ⟨s.toArray⟩, .slice A m c]) (T := 99) (x := (s, A, m, c)) rfl 1 (by omega)
  have k14 : ∀ j, j < W.heap.size → j ≠ r → v.ownBlock ≠ some j → out.ownBlock ≠ some j → W4.heap[j]? = W.heap[j]? := fun j hj h1 h2 h3 => (k4 j (Nat.lt_of_lt_of_le hj s13) h3).trans (k13 j hj h1 h2)
  have g4 : W3.grownBy W4 out.ownBlock := ⟨(b4 0 (by omega)).os, (b4 0 (by omega)).tape, (b4 0 (by omega)).output, s4, fun i hi hne => k4 i hi fun e => hne e.symm⟩
  have hbv : some b ≠ v.ownBlock := fun e => by have := hlt b e.symm; have := G.bB; omega
  have hrv : some r ≠ v.ownBlock := fun e => by have := hlt r e.symm; omega
  have hbo : some b ≠ out.ownBlock := fun e => by have := hol b e.symm; have := G.bB; have := G.Br; omega
  have hro : some r ≠ out.ownBlock := fun e => by have := hol r e.symm; omega
  have keep : ∀ (u : Value) (cs : List Ct) (k' : List UInt8) (v' : Value), kCt.own 69 W B (fun _ => False) u cs → u.ownBlock = v'.ownBlock → csOf hs k' ≠ [] → AtK D k' v' → s ≠ k' → kCt.own 69 W4 B (fun _ => False) u cs := fun u cs k' v' hu e hc ha hne =>
    Lay.own_keep hu (Nat.le_trans s13 s4) fun j hj hjl => by
      rcases hj with hj | hj
      · exact hj.elim
      · rw [e] at hj
        have h5 := G.lt k' v' hc ha j hj
        exact k14 j hjl (by omega) (fun e9 => G.ap s k' v v' hne hcs hc hv ha j e9 hj) fun e9 => by have := hol j e9; omega
  refine ⟨A', c', W4, run, ⟨(hrg1.kept g3 hbv hrv).kept g4 hbo hro, fun k' v' hc hl ha => ?_, o4, fun x hx => ?_, fun k' hc hl => ?_, ?_, ?_⟩⟩
  · simp only [same_str, Bool.and_eq_true, Bool.not_eq_true', decide_eq_false_iff_not] at hl
    exact keep v' _ k' v' (h.todo k' v' hc hl.1 ha) rfl hc ha (fun e => hl.2 e.symm)
  · rcases List.mem_append.1 hx with hx | hx
    · obtain ⟨d1, d2, d3, ⟨v', d4⟩, ys', d5, d6, d7⟩ := h.done x hx
      refine ⟨d1, by simp [d2], d3, ⟨v', d4⟩, ys', d5, d6, keep _ _ x.1 v' d7 (d3 v' d4).symm d1 d4 fun e => ?_⟩
      rw [← e, hsl] at d2; cases d2
    · simp only [List.mem_singleton] at hx
      subst hx
      refine ⟨hcs, by simp [same_str], fun v' hv' => ?_, ⟨v, hv⟩, ys, hp, hpw, ?_⟩
      · rw [AtK.one hv' hv]; exact hvb.symm
      · refine Lay.own_keep (v := .slice A m c) ho s4 fun j hj hjl => ?_
        rcases hj with hj | hj
        · exact hj.elim
        · rw [hvb] at hj
          have := hlt j hj
          exact k4 j hjl fun e9 => by have := hol j e9; omega
  · simp only [same_str, Bool.and_eq_false_iff, Bool.not_eq_false', decide_eq_true_eq] at hl
    by_cases e : k' = s
    · exact ⟨(s, A, m, c), by simp, e.symm⟩
    · obtain ⟨x, hx, hxk⟩ := h.all k' hc (hl.resolve_right e)
      exact ⟨x, List.mem_append_left _ hx, hxk⟩
  · rw [List.map_append, List.nodup_append]
    refine ⟨h.nd, by simp, fun a ha b' hb' e => ?_⟩
    obtain ⟨x, hx, rfl⟩ := List.mem_map.1 ha
    simp only [List.map_cons, List.map_nil, List.mem_singleton] at hb'
    have := (h.done x hx).2.1
    rw [e, hb', hsl] at this
    cases this
  · have b14 := b4 B (by have := G.Br; omega)
    refine ⟨b14.os.trans (g3.os.trans (g1.os.trans h.bel.os)), b14.tape.trans (g3.tape.trans (g1.tape.trans h.bel.tape)), b14.output.trans (g3.output.trans (g1.output.trans h.bel.output)), Nat.le_trans h.bel.size (Nat.le_trans s13 s4), fun j hj => ?_⟩
    have hjW : j < W.heap.size := by have := G.Br; omega
    exact (k14 j hjW (by have := G.Br; omega) (fun e => by have := hlt j e; omega) (fun e => by have := hol j e; have := G.Br; omega)).trans (h.bel.block j hj)
theorem itm_fin {B b r n : Nat} {hs : List (List UInt8 × Ct)} {D : DV} {w : World} {left : Lit → Bool} {cnt : Nat} {out : Value} {its its' : List ItV} {W W5 : World} (G : ItmG B b r hs D) (h : ItmR B b r n hs D w left cnt out its W) (hk : ∀ x ∈ hs, x.1.length ≤ 1000) (hl : ∀ kl, left kl = false)
    (hp : its'.Perm its) (hpw : its'.Pairwise fun a b => sLt b.1 a.1 = false) (ho : kIv.own 99 W5 (r + 1) (fun _ => False) out its') (g5 : W.grownBy W5 out.ownBlock) : ∃ A m c, out = .slice A m c ∧ TbH W5 A m c hs ∧ Below B w W5 := by
  have hol := Lay.own_lt h.own
  have hd : ∀ x ∈ its', csOf hs x.1 ≠ [] ∧ ∃ ys : List Ct, ys.Perm (csOf hs x.1) ∧ (ys.Pairwise fun a b => ¬ CLt b a) ∧ kCt.own 69 W5 B (fun _ => False) (itS x) (dedP ys) ∧ ∀ j, (itS x).ownBlock = some j → j < r := fun x hx => by
    obtain ⟨d1, d2, d3, ⟨v', d4⟩, ys, d5, d6, d7⟩ := h.done x (hp.mem_iff.1 hx)
    have hj : ∀ j, (itS x).ownBlock = some j → j < r := fun j hj => (G.lt x.1 v' d1 d4 j (by rw [d3 v' d4]; exact hj)).2
    refine ⟨d1, ys, d5, d6, Lay.own_keep d7 g5.size fun j hj' hjl => ?_, hj⟩
    rcases hj' with hj' | hj'
    · exact hj'.elim
    · exact g5.block j hjl fun e => by have := hol j e.symm; have := hj j hj'; omega
  have hex : ∀ x : ItV, ∃ ys : List Ct, x ∈ its' → ys.Perm (csOf hs x.1) ∧ (ys.Pairwise fun a b => ¬ CLt b a) ∧ kCt.own 69 W5 B (fun _ => False) (itS x) (dedP ys) := fun x => by
    by_cases hx : x ∈ its'
    · obtain ⟨_, ys, a1, a2, a3, _⟩ := hd x hx
      exact ⟨ys, fun _ => ⟨a1, a2, a3⟩⟩
    · exact ⟨[], fun h9 => absurd h9 hx⟩
  obtain ⟨f, hf⟩ : ∃ f : ItV → List Ct, ∀ x ∈ its', (f x).Perm (csOf hs x.1) ∧ ((f x).Pairwise fun a b => ¬ CLt b a) ∧ kCt.own 69 W5 B (fun _ => False) (itS x) (dedP (f x)) := ⟨fun x => (hex x).choose, fun x hx => (hex x).choose_spec hx⟩
  have hT : its'.map (fun x => (x.1, dedP (f x))) = tabP hs := by
    refine items_tab (fun y hy => ?_) (fun k hc => ?_) ?_
    · obtain ⟨x, hx, rfl⟩ := List.mem_map.1 hy
      exact ⟨(hd x hx).1, f x, (hf x hx).1, (hf x hx).2.1, rfl⟩
    · obtain ⟨x, hx, rfl⟩ := h.all k hc (hl _)
      exact ⟨_, List.mem_map.2 ⟨x, hp.mem_iff.2 hx, rfl⟩⟩
    · rw [List.pairwise_map]
      have hnd : (its'.map (·.1)).Nodup := (hp.map (·.1)).nodup_iff.2 h.nd
      rw [List.nodup_iff_pairwise_ne, List.pairwise_map] at hnd
      exact (hpw.and hnd).imp fun {a b} ⟨h1, h2⟩ => (sLt_tri h2).resolve_right (by rw [h1]; simp)
  have hown : kIt.own 99 W5 (r + 1) (fun j => j < r) out (its'.map fun x => (x.1, dedP (f x))) := by
    obtain ⟨ds, h1, h2, h3⟩ := ho
    refine ⟨ds, h1, by rw [List.length_map]; exact h2, fun i d y hd' hy => ?_⟩
    rw [List.getElem?_map] at hy
    obtain ⟨x, hx, rfl⟩ := Option.map_eq_some_iff.1 hy
    have e : d.1 = itCs x := h3 i d x hd' hx
    have hxm := List.mem_of_getElem? hx
    obtain ⟨_, ys, _, _, _, hj⟩ := hd x hxm
    obtain ⟨k, A, m, c⟩ := x
    have ho9 := (hf _ hxm).2.2
    obtain ⟨A9, c9, e9, hc9, hr9⟩ := Lay.own_row ho9
    obtain ⟨e1, e2, e3⟩ := Value.slice.inj e9
    simp only at e1 e2 e3
    rw [← e1, ← e2] at hr9
    rw [← e2, ← e3] at hc9
    refine kIt_rep.2 ⟨_, _, _, e, hc9, Lay.row_mono hr9 fun j hj' _ => ?_⟩
    rcases hj' with hj' | hj'
    · exact hj'.elim
    · have := hj j hj'
      exact ⟨this, fun e => by have := hol j e; omega⟩
  obtain ⟨A, c, e, hc, hr⟩ := Lay.own_row hown
  rw [hT] at hr
  refine ⟨A, _, c, e, ⟨Lay.row_mono (by rw [← hT] at hr ⊢; exact hr) fun _ _ _ => trivial, hc, reg_tab hs, tab_len hs, fun x hx => ?_⟩, ?_⟩
  · obtain ⟨c, hc⟩ := tab_key hx
    exact hk _ hc
  · refine ⟨g5.os.trans h.bel.os, g5.tape.trans h.bel.tape, g5.output.trans h.bel.output, Nat.le_trans h.bel.size g5.size, fun j hj => (g5.block j (by have := h.rg.lt; have := G.Br; omega) fun e => by have := hol j e.symm; have := G.Br; omega).trans (h.bel.block j hj)⟩
theorem GMap.itmG {B b n : Nat} {hs : List (List UInt8 × Ct)} {D : DV} {W : World} (h : GMap B b n hs D W) (hB : B ≤ W.heap.size) : ItmG B b W.heap.size hs D :=
  ⟨h.ap, fun k v hc ha j hj => by
    obtain ⟨v', h1, h2⟩ := h.row k hc
    rw [AtK.one ha h1] at hj
    exact Lay.own_lt h2 j hj, h.lt, hB⟩
theorem GMap.itmR {B b n : Nat} {hs : List (List UInt8 × Ct)} {D : DV} {w W : World} (h : GMap B b n hs D w) (hB : B ≤ w.heap.size) {cnt : Nat} (hrg : W.ranges Tryz.prog 9 rV b w.heap.size n D (Maps.has D) cnt) (hg : w.grownBy W none) : ItmR B b w.heap.size n hs D w (Maps.has D) cnt (.slice none 0 0) [] W :=
  ⟨hrg, fun k v hc _ ha => by
    obtain ⟨v', h1, h2⟩ := h.row k hc
    rw [AtK.one ha h1]
    exact Lay.own_keep h2 hg.size fun j _ hjl => hg.block j hjl (by simp), Lay.own_nil _ _ _ _ _, fun x hx => (by cases hx), fun k hc hl => (by rw [(h.has k).2 hc] at hl; cases hl), .nil, ⟨hg.os, hg.tape, hg.output, hg.size, fun j hj => hg.block j (by omega) (by simp)⟩⟩
theorem sort_iall (w : World) (B : Nat) (v : Value) (xs : List ItV) (h : kIv.own 99 w B (fun _ => False) v xs) (hl : xs.length ≤ 100000000) :
    Calls Tryz.prog 114 #[v, .func (.func 115) #[] #[]] w fun e w' => e = .returned (.tuple #[]) ∧ ∃ ys, ys.Perm xs ∧ (ys.Pairwise fun a b => sLt b.1 a.1 = false) ∧ kIv.own 99 w' B (fun _ => False) v ys ∧ w.grownBy w' v.ownBlock := by
  by_cases hne : xs = []
  · subst hne
    obtain ⟨A, c, rfl, _, _⟩ := Lay.own_row h
    refine (sort_none A c _ w).mono ?_
    rintro e w' ⟨rfl, rfl⟩
    exact ⟨rfl, [], List.Perm.refl _, .nil, h, ⟨rfl, rfl, rfl, Nat.le_refl _, fun _ _ _ => rfl⟩⟩
  · exact sort_iown w B v xs h hne hl
theorem csOf_len (hs : List (List UInt8 × Ct)) (k : List UInt8) : (csOf hs k).length ≤ hs.length := List.length_filterMap_le _ _
set_option maxHeartbeats 4000000 in
set_option maxRecDepth 100000 in
theorem items_any (w : World) (B b n : Nat) (hs : List (List UInt8 × Ct)) (D : DV) (h : GMap B b n hs D w) (hB : B ≤ w.heap.size) (hn : hs.length ≤ 40000000) (hk : ∀ x ∈ hs, x.1.length ≤ 1000) :
    Calls Tryz.prog 57 #[.map (some b)] w fun e w' => ∃ A m c, e = .returned (.slice A m c) ∧ TbH w' A m c hs ∧ Below B w w' := by
  have HG := Lib.hid (h.itmG hB)
  have HH := Lib.hid h
  have hown := h.own
  clear h
  obtain ⟨r, hr⟩ : ∃ r, w.heap.size = r := ⟨_, rfl⟩
  go_enter Tryz.func57, Tryz.ntmps57
  go_wp2_with (first
    | (at_range; refine wpList_range_own _ rfl _ 105 rfl 9 38 lawS Tryz.underlying105 rV b n _ rfl hown ?_; intro w0 hrg0 hg0 hs0)
    | go_in)
  go_frame
  have HST := Lib.hid (HH.out.itmR hB hrg0 hg0)
  rw [hr] at HG HST hrg0 hs0 ⊢
  clear hrg0 hg0 hs0 hown
  go_loopw [3] (fun s3 wr => ∃ (left : Lit → Bool) (cnt : Nat) (its : List ItV) (out : Value), out = s3 ∧ ItmR B b r n hs D w left cnt out its wr) (fun _ wr => wr.rangeLeft b r)
  case atStart => exact ⟨_, _, [], _, rfl, HST.out⟩
  case round =>
    obtain ⟨left, cnt, its, out, hout, hI⟩ := hrel
    subst hout
    have HI := Lib.hid hI
    have hrg := hI.rg
    clear hI
    go_wp2_with (first
      | (at_next; refine wpList_next_ranges _ rfl _ rfl 9 lawS rV id id (fun key _ _ => ⟨key, rfl⟩) (fun v _ _ => ⟨v, rfl⟩) b r n _ _ _ rfl hrg ?_ ?_)
      | go_in)
    · intro hc0 hl0
      have HS := Lib.hid (sort_iall wr (r + 1) out its HI.out.own (by have := HI.out.len; omega))
      have HL0 := Lib.hid hl0
      clear hl0 hrg
      go_wp2_with (first
        | (go_at_call 114; refine (HS.out).mono ?_; rintro e w5 ⟨rfl, its', hp, hpw, ho5, hg5⟩; have HE := Lib.hid (itm_fin HG.out HI.out hk HL0.out hp hpw ho5 hg5); clear hp hpw ho5 hg5)
        | go_in)
      go_ret
      obtain ⟨A, m, c, e, h1, h2⟩ := HE.out
      exact ⟨A, m, c, by rw [← e]; rfl, h1, h2⟩
    · intro x c kl yd yp w1 cnt1 hkey hlx hv hat hrg1 hlt hg1 hs1 hen
      obtain ⟨s, rfl, rfl, hsl⟩ := key_inv hkey
      have ha : AtK D s c := fun z => by
        rw [hat z]
        unfold rV at hv
        simp only [Option.some.injEq, Prod.mk.injEq] at hv
        exact hv.1.symm
      have hcs : csOf hs s ≠ [] := (HH.out.has s).1 (has_true_of_atKey hat)
      have hlen := csOf_len hs s
      have ho1 : kCt.own 69 w1 B (fun _ => False) c (csOf hs s) := Lay.own_keep (HI.out.todo s c hcs hlx ha) (by omega) fun j hj hjl => by
        rcases hj with hj | hj
        · exact hj.elim
        · have := HG.out.lt s c hcs ha j hj
          exact hg1.block j hjl (fun e => by have := Option.some.inj e; omega)
      have HSO := Lib.hid (sort_own w1 B c (csOf hs s) ho1 hcs (by omega))
      have HSTEP := Lib.hid (fun (W3 : World) (A : Option Addr) (m cc : Nat) (ys : List Ct) g3 hvb hp hpw ho => ItmR.step (W3 := W3) (A := A) (m := m) (c := cc) (ys := ys) HG.out HI.out hn hlx hcs ha hrg1 hg1 g3 hvb hp hpw ho)
      have HLT := Lib.hid hlt
      have HYL := Lib.hid (show ∀ ys : List Ct, ys.Perm (csOf hs s) → ys ≠ [] ∧ ys.length ≤ 100000000 from fun ys hp => ⟨fun e => hcs (by rw [e] at hp; exact List.Perm.nil_eq hp ▸ rfl), by rw [hp.length_eq]; omega⟩)
      clear ho1 hkey hv hat ha hcs hlen hlx hrg hrg1 hlt hg1 hs1

      go_wp2_with (first
        | (go_at_call 111; refine (HSO.out).mono ?_; rintro e w2 ⟨rfl, ys, hp, hpw, ho2, hg2⟩; have HC := Lib.hid (compact_own w2 B c ys ho2 (HYL.out ys hp).1 (HYL.out ys hp).2); have HP := Lib.hid hp; have HPW := Lib.hid hpw; have HG2 := Lib.hid hg2; clear hp hpw ho2 hg2)
        | (go_at_call 113; refine (HC.out).mono ?_; rintro e w3 ⟨v', rfl, hvb, ho3, hg3⟩; obtain ⟨A9, c9, rfl, _, _⟩ := Lay.own_row ho3; obtain ⟨A', c', w4, hrun, hst⟩ := HSTEP.out w3 A9 _ c9 ys (HG2.out.andThen hg3 fun j hj => .inr hj) hvb HP.out HPW.out ho3; have RUN := Lib.hid hrun; have HST4 := Lib.hid hst; clear hvb ho3 hg3 hrun hst)
        | (at_builtin; refine wpList_append_run (s := .tmp 15) (x := .tmp 20) RUN.out rfl rfl rfl rfl rfl ?_)
        | go_in)
      go_roundw
      case rel => exact ⟨_, cnt1, _, _, rfl, HST4.out⟩
      case measure => rw [HST4.out.rg.left_eq, HI.out.rg.left_eq]; exact HLT.out
end Go.Proofs.YtdbnddmncbjobaaGreatDoor

/- A row of the map grows: look-up, append, store. -/
namespace Go.Proofs.YtdbnddmncbjobaaGreatDoor
open Go Go.RowKit Go.Maps
attribute [local go_sem] Oper.semAt_some

theorem step_mapU {P : Program} {w : World} {ys : Nat → Option Bool} {o : Oper} {a : Act} {K : Act → World → Prop} {Q : Exit → Act → World → Prop} {E : Prop} {t : TypeId} {m k x : Operand} {vm vk vx : Value} {w' : World}
    (hr : (Instr.mapUpdate t vm vk vx).run P w = .ok () w') (hgd : o.guard = none) (ho : o.op = .mapUpdate t m k x) (hm : a.eval m = vm) (hk : a.eval k = vk) (hx : a.eval x = vx)
    (h : K (a.put o.dst undef) w') : if Region.wanted o ys = true then Oper.wp P o a w K Q else E := by
  have hw : Region.wanted o ys = true := by simp [Region.wanted, hgd]
  rw [if_pos hw]
  unfold Oper.wp
  simp [execOp, ho, hm, hk, hx, hr, Result.andThen]
  exact h
theorem GMap.raise {B B' b n : Nat} {D : DV} {W : World} (h : GMap B b n [] D W) (hB : b < B') : GMap B' b n [] D W :=
  ⟨h.own, hB, h.key, h.has, fun _ hk => absurd rfl hk, h.ap⟩
theorem GMap.look2 {B b n : Nat} {hs : List (List UInt8 × Ct)} {D : DV} {W : World} (h : GMap B b n hs D W) {k : List UInt8} (hk : k.length ≤ maxLen) :
    ∃ v, (∀ X : World, X.ownsMap Tryz.prog 9 rV b n D → (Instr.lookup 105 (.map (some b)) (.string ⟨k.toArray⟩) false).run Tryz.prog X = .ok v X) ∧ kCt.own 69 W B (fun _ => False) v (csOf hs k) ∧
      ∀ k' v', k ≠ k' → csOf hs k' ≠ [] → AtK D k' v' → ∀ j, v.ownBlock = some j → v'.ownBlock ≠ some j := by
  obtain ⟨v, hrun, ho, hap⟩ := h.look hk
  refine ⟨v, fun X hX => ?_, ho, hap⟩
  obtain ⟨v1, p1, r1, e1⟩ := h.own.lookup (t := 105) (e := 38) lawS Tryz.underlying105 (z := .slice none 0 0) (Tryz.zeroValue38 W) (zd := .held (.slice none 0 0)) (zp := []) rfl (keyS hk)
  obtain ⟨v2, p2, r2, e2⟩ := hX.lookup (t := 105) (e := 38) lawS Tryz.underlying105 (z := .slice none 0 0) (Tryz.zeroValue38 X) (zd := .held (.slice none 0 0)) (zp := []) rfl (keyS hk)
  rw [hrun] at r1
  obtain rfl : v = v1 := (Result.ok.inj r1).1
  have : v2 = v := by
    unfold rV at e1 e2
    simp only [Option.some.injEq, Prod.mk.injEq] at e1 e2
    have := e2.1.trans e1.1.symm
    injection this
  subst this
  exact r2
theorem own_lenF {W : World} {B : Nat} {v : Value} {xs : List Ct} (h : kCt.own 69 W B (fun _ => False) v xs) (X : World) (hX : W.grownBy X none) : kCt.own 69 X B (fun _ => False) v xs := Lay.own_keep h hX.size fun j _ hjl => hX.block j hjl (by simp)
/-- What an append and a store of places at a key give. -/
structure Pushed (B b n : Nat) (hs : List (List UInt8 × Ct)) (W X : World) (k : List UInt8) (ys : List Ct) (v : Value) (D' : DV) (X2 : World) : Prop where
  gm : GMap B b (n + 1) (hs ++ ys.map fun c => (k, c)) D' X2
  size : X.heap.size ≤ X2.heap.size
  os : X2.os = X.os
  tape : X2.tape = X.tape
  output : X2.output = X.output
  block : ∀ j, j < X.heap.size → (j < B ∨ W.heap.size ≤ j) → j ≠ b → X2.heap[j]? = X.heap[j]?
theorem GMap.push {B b n : Nat} {hs : List (List UInt8 × Ct)} {D : DV} {W : World} (h : GMap B b n hs D W) (hB : B ≤ W.heap.size) {k : List UInt8} (hk : k.length ≤ maxLen) (hn : n < 40000000) (hl : hs.length ≤ 40000000) :
    ∃ v, (∀ X : World, X.ownsMap Tryz.prog 9 rV b n D → (Instr.lookup 105 (.map (some b)) (.string ⟨k.toArray⟩) false).run Tryz.prog X = .ok v X) ∧
      ∀ (X : World) (_ : W.grownBy X none) (P : Nat → Prop) (A : Option Addr) (m c : Nat) (ys : List Ct), kCt.row X P A m ys → ys ≠ [] → ys.length ≤ 40000000 →
        ∃ A' m' c' X1, (Builtin.append_ #[38, 38] 38 #[v, .slice A m c]).run Tryz.prog X = .ok (.slice A' m' c') X1 ∧ X1.ownsMap Tryz.prog 9 rV b n D ∧ X.heap.size ≤ X1.heap.size ∧ (∀ j, j < X.heap.size → (j < B ∨ W.heap.size ≤ j) → j ≠ b → X1.heap[j]? = X.heap[j]?) ∧
          ∃ D' X2, (Instr.mapUpdate 105 (.map (some b)) (.string ⟨k.toArray⟩) (.slice A' m' c')).run Tryz.prog X1 = .ok () X2 ∧ Pushed B b n hs W X k ys v D' X2 := by
  obtain ⟨v, hlook, ho, hap⟩ := h.look2 hk
  refine ⟨v, hlook, fun X hX P A m c ys hr hy hyl => ?_⟩
  have hvl := Lay.own_lt ho
  have hoX := own_lenF ho X hX
  have hlen := csOf_len hs k
  have hrl := Lay.row_len hr
  obtain ⟨ds, e1, e2, e3, e4, e5⟩ := hr
  obtain ⟨A', c', X1, hrun, ho1, hb1, hk1, hs1, hn1⟩ := Lay.own_append (k := kCt) (P := Tryz.prog) (t := 38) (e := 69) Tryz.underlying38 info69 rfl (by decide) (by omega) hoX e3 e2 (fun i d x hd hx => kCt_rep.2 (kCt_rep.1 (e5 i d x hd hx))) c (by omega) (Nat.le_trans hB hX.size)
  have hbW := h.own.lt
  have hmap1 : X1.ownsMap Tryz.prog 9 rV b n D := by
    obtain ⟨es, clock, hb, F, hsz, hD⟩ := h.own
    exact ⟨es, clock, (hk1 b (Nat.lt_of_lt_of_le hbW hX.size) (fun e => by have := (hvl b e).1; have := h.lt; omega)).trans ((hX.block b hbW (by simp)).trans hb), F, hsz, hD⟩
  have kk : ∀ j, j < X.heap.size → (j < B ∨ W.heap.size ≤ j) → X1.heap[j]? = X.heap[j]? := fun j hj hj2 => hk1 j hj fun e => by
    have := hvl j e; omega
  refine ⟨A', _, c', X1, hrun, hmap1, hs1, fun j hj hj2 _ => kk j hj hj2, ?_⟩
  obtain ⟨X2, hrun2, hg2, hgr⟩ := (h.keep hX).store (W1 := X1) hk (by unfold maxLen; omega) (v := v) (v' := .slice A' ((csOf hs k).length + m) c') (ys := ys) hy hap (fun j hj => (hvl j hj).1) hs1 (fun j hj hne => hk1 j hj hne) ho1 (fun j hj => (hn1 j hj).imp id id)
  refine ⟨_, X2, hrun2, hg2, Nat.le_trans hs1 hgr.size, hgr.os.trans (hb1 0 (Nat.zero_le _)).os, hgr.tape.trans (hb1 0 (Nat.zero_le _)).tape, hgr.output.trans (hb1 0 (Nat.zero_le _)).output, fun j hj hj2 hjb => ?_⟩
  exact (hgr.block j (Nat.lt_of_lt_of_le hj hs1) fun e => hjb (Option.some.inj e)).trans (kk j hj hj2)
/-- No row of the map lies in a block of K. -/
def GAv (K : Nat → Prop) (D : DV) (hs : List (List UInt8 × Ct)) : Prop := ∀ k v, csOf hs k ≠ [] → AtK D k v → ∀ j, v.ownBlock = some j → ¬ K j
structure Pushd (B b n : Nat) (hs : List (List UInt8 × Ct)) (D : DV) (X : World) (k : List UInt8) (ys : List Ct) (v : Value) (D' : DV) (X2 : World) : Prop where
  gm : GMap B b (n + 1) (hs ++ ys.map fun c => (k, c)) D' X2
  size : X.heap.size ≤ X2.heap.size
  os : X2.os = X.os
  tape : X2.tape = X.tape
  output : X2.output = X.output
  block : ∀ j, j < X.heap.size → v.ownBlock ≠ some j → j ≠ b → X2.heap[j]? = X.heap[j]?
  av : ∀ K : Nat → Prop, GAv K D hs → (∀ j, K j → j < X.heap.size) → GAv K D' (hs ++ ys.map fun c => (k, c))
theorem GMap.look3 {B b n : Nat} {hs : List (List UInt8 × Ct)} {D : DV} {W : World} (h : GMap B b n hs D W) {k : List UInt8} (hk : k.length ≤ maxLen) :
    ∃ v, (∀ X : World, X.ownsMap Tryz.prog 9 rV b n D → (Instr.lookup 105 (.map (some b)) (.string ⟨k.toArray⟩) false).run Tryz.prog X = .ok v X) ∧ kCt.own 69 W B (fun _ => False) v (csOf hs k) ∧
      (∀ k' v', k ≠ k' → csOf hs k' ≠ [] → AtK D k' v' → ∀ j, v.ownBlock = some j → v'.ownBlock ≠ some j) ∧ (v = .slice none 0 0 ∨ (csOf hs k ≠ [] ∧ AtK D k v)) := by
  obtain ⟨v, hlook, ho, hap⟩ := h.look2 hk
  refine ⟨v, hlook, ho, hap, ?_⟩
  obtain ⟨v1, p1, r1, e1⟩ := h.own.lookup (t := 105) (e := 38) lawS Tryz.underlying105 (z := .slice none 0 0) (Tryz.zeroValue38 W) (zd := .held (.slice none 0 0)) (zp := []) rfl (keyS hk)
  obtain rfl : v = v1 := (Result.ok.inj ((hlook W h.own).symm.trans r1)).1
  have e2 : D.atKey (.string k) (.held (.slice none 0 0)) = .held v := by
    unfold rV at e1; simp only [Option.some.injEq, Prod.mk.injEq] at e1; exact e1.1.symm
  by_cases hc : csOf hs k = []
  · left
    have hf : Maps.has D (.string k) = false := by
      cases h9 : Maps.has D (.string k)
      · rfl
      · exact absurd hc ((h.has k).1 h9)
    rw [atKey_of_not_has hf] at e2
    exact (DataW.held.inj e2).symm
  · right
    obtain ⟨v2, h2, h3⟩ := h.row k hc
    rw [h2] at e2
    obtain rfl : v2 = v := DataW.held.inj e2
    exact ⟨hc, h2⟩
theorem GMap.push2 {B b n : Nat} {hs : List (List UInt8 × Ct)} {D : DV} {W : World} (h : GMap B b n hs D W) (hB : B ≤ W.heap.size) {k : List UInt8} (hk : k.length ≤ maxLen) (hn : n < 40000000) (hl : hs.length ≤ 40000000) :
    ∃ v, (∀ X : World, X.ownsMap Tryz.prog 9 rV b n D → (Instr.lookup 105 (.map (some b)) (.string ⟨k.toArray⟩) false).run Tryz.prog X = .ok v X) ∧ (∀ K : Nat → Prop, GAv K D hs → ∀ j, v.ownBlock = some j → ¬ K j) ∧ (∀ j, v.ownBlock = some j → j < W.heap.size) ∧
      ∀ (X : World) (_ : W.grownBy X none) (P : Nat → Prop) (A : Option Addr) (m c : Nat) (ys : List Ct), kCt.row X P A m ys → ys ≠ [] → ys.length ≤ 10000000 →
        ∃ A' m' c' X1, (Builtin.append_ #[38, 38] 38 #[v, .slice A m c]).run Tryz.prog X = .ok (.slice A' m' c') X1 ∧ X1.ownsMap Tryz.prog 9 rV b n D ∧ (∀ j, j < X.heap.size → v.ownBlock ≠ some j → X1.heap[j]? = X.heap[j]?) ∧
          ∃ D' X2, (Instr.mapUpdate 105 (.map (some b)) (.string ⟨k.toArray⟩) (.slice A' m' c')).run Tryz.prog X1 = .ok () X2 ∧ Pushd B b n hs D X k ys v D' X2 := by
  obtain ⟨v, hlook, ho, hap, hvc⟩ := h.look3 hk
  have hvl := Lay.own_lt ho
  have hvK : ∀ K : Nat → Prop, GAv K D hs → ∀ j, v.ownBlock = some j → ¬ K j := fun K hK j hj => by
    rcases hvc with rfl | ⟨hc, ha⟩
    · simp [Value.ownBlock] at hj
    · exact hK k v hc ha j hj
  refine ⟨v, hlook, hvK, fun j hj => (hvl j hj).2, fun X hX P A m c ys hr hy hyl => ?_⟩
  have hoX := own_lenF ho X hX
  have hlen := csOf_len hs k
  have hrl := Lay.row_len hr
  obtain ⟨ds, e1, e2, e3, e4, e5⟩ := hr
  obtain ⟨A', c', X1, hrun, ho1, hb1, hk1, hs1, hn1⟩ := Lay.own_append (k := kCt) (P := Tryz.prog) (t := 38) (e := 69) Tryz.underlying38 info69 rfl (by decide) (by omega) hoX e3 e2 (fun i d x hd hx => kCt_rep.2 (kCt_rep.1 (e5 i d x hd hx))) c (by omega) (Nat.le_trans hB hX.size)
  have hbW := h.own.lt
  have hmap1 : X1.ownsMap Tryz.prog 9 rV b n D := by
    obtain ⟨es, clock, hb, F, hsz, hD⟩ := h.own
    exact ⟨es, clock, (hk1 b (Nat.lt_of_lt_of_le hbW hX.size) (fun e => by have := (hvl b e).1; have := h.lt; omega)).trans ((hX.block b hbW (by simp)).trans hb), F, hsz, hD⟩
  refine ⟨A', _, c', X1, hrun, hmap1, hk1, ?_⟩
  obtain ⟨X2, hrun2, hg2, hgr⟩ := (h.keep hX).store (W1 := X1) hk (by unfold maxLen; omega) (v := v) (v' := .slice A' ((csOf hs k).length + m) c') (ys := ys) hy hap (fun j hj => (hvl j hj).1) hs1 (fun j hj hne => hk1 j hj hne) ho1 (fun j hj => (hn1 j hj).imp id id)
  refine ⟨_, X2, hrun2, hg2, Nat.le_trans hs1 hgr.size, hgr.os.trans (hb1 0 (Nat.zero_le _)).os, hgr.tape.trans (hb1 0 (Nat.zero_le _)).tape, hgr.output.trans (hb1 0 (Nat.zero_le _)).output, fun j hj hj2 hjb => ?_, fun K hK hKl k' u hc ha j hj hKj => ?_⟩
  · exact (hgr.block j (Nat.lt_of_lt_of_le hj hs1) fun e => hjb (Option.some.inj e)).trans (hk1 j hj hj2)
  · have hm : IsMap D := by obtain ⟨es, _, _, _, _, rfl⟩ := h.own; exact ⟨_, rfl⟩
    by_cases e : k = k'
    · subst e
      have hput : AtK (D.put (.string k) (.held (.slice A' ((csOf hs k).length + m) c'))) k (.slice A' ((csOf hs k).length + m) c') := fun z => atKey_put_same hm (keyLit hk) _ _
      rw [AtK.one ha hput] at hj
      rcases hn1 j hj with h9 | h9
      · exact hvK K hK j h9 hKj
      · have := hKl j hKj; omega
    · have hne : Lit.string k' ≠ Lit.string k := fun e9 => e (Lit.string.inj e9).symm
      have ha' : AtK D k' u := fun z => by have := ha z; rwa [atKey_put_other hne] at this
      rw [csOf_append, csOf_other e, List.append_nil] at hc
      exact hK k' u hc ha' j hj hKj
/-- What is kept while the map grows: the blocks of K, which no row of the map lies in. -/
structure Kpt (b : Nat) (K : Nat → Prop) (hs : List (List UInt8 × Ct)) (D : DV) (W0 W : World) : Prop where
  os : W.os = W0.os
  tape : W.tape = W0.tape
  output : W.output = W0.output
  size : W0.heap.size ≤ W.heap.size
  av : GAv K D hs
  nb : ¬ K b
  lt : ∀ j, K j → j < W0.heap.size
  block : ∀ j, K j → W.heap[j]? = W0.heap[j]?
theorem Kpt.start {b : Nat} {K : Nat → Prop} {hs : List (List UInt8 × Ct)} {D : DV} {W : World} (av : GAv K D hs) (nb : ¬ K b) (lt : ∀ j, K j → j < W.heap.size) : Kpt b K hs D W W := ⟨rfl, rfl, rfl, Nat.le_refl _, av, nb, lt, fun _ _ => rfl⟩
theorem Kpt.ext {b : Nat} {K : Nat → Prop} {hs : List (List UInt8 × Ct)} {D : DV} {W0 W Y : World} (h : Kpt b K hs D W0 W) (os : Y.os = W.os) (tape : Y.tape = W.tape) (output : Y.output = W.output) (size : W.heap.size ≤ Y.heap.size) (blk : ∀ j, j < W.heap.size → Y.heap[j]? = W.heap[j]?) : Kpt b K hs D W0 Y :=
  ⟨os.trans h.os, tape.trans h.tape, output.trans h.output, Nat.le_trans h.size size, h.av, h.nb, h.lt, fun j hj => (blk j (Nat.lt_of_lt_of_le (h.lt j hj) h.size)).trans (h.block j hj)⟩
theorem Kpt.push {B b n : Nat} {K : Nat → Prop} {hs : List (List UInt8 × Ct)} {D D' : DV} {W0 X X2 : World} {k : List UInt8} {ys : List Ct} {v : Value} (h : Kpt b K hs D W0 X) (hv : ∀ K : Nat → Prop, GAv K D hs → ∀ j, v.ownBlock = some j → ¬ K j) (hp : Pushd B b n hs D X k ys v D' X2) : Kpt b K (hs ++ ys.map fun c => (k, c)) D' W0 X2 :=
  have hl : ∀ j, K j → j < X.heap.size := fun j hj => Nat.lt_of_lt_of_le (h.lt j hj) h.size
  ⟨hp.os.trans h.os, hp.tape.trans h.tape, hp.output.trans h.output, Nat.le_trans h.size hp.size, hp.av K h.av hl, h.nb, h.lt, fun j hj => (hp.block j (hl j hj) (fun e => hv K h.av j e hj) (fun e => h.nb (e ▸ hj))).trans (h.block j hj)⟩
/-- Blocks that have been made since are kept besides. -/
theorem Kpt.widen {B b n : Nat} {K : Nat → Prop} {hs : List (List UInt8 × Ct)} {D : DV} {W0 W Y : World} (h : Kpt b K hs D W0 W) (hg : GMap B b n hs D W) (size : W.heap.size ≤ Y.heap.size) : Kpt b (fun j => K j ∨ (W.heap.size ≤ j ∧ j < Y.heap.size)) hs D Y Y :=
  Kpt.start (fun k v hc ha j hj hKj => by
    rcases hKj with hKj | hKj
    · exact h.av k v hc ha j hj hKj
    · obtain ⟨v', h1, h2⟩ := hg.row k hc
      rw [AtK.one ha h1] at hj
      have := (Lay.own_lt h2 j hj).2
      omega) (fun hb => hb.elim h.nb fun hb => by have := hg.own.lt; omega) fun j hj => hj.elim (fun hj => Nat.lt_of_lt_of_le (h.lt j hj) (Nat.le_trans h.size size)) (·.2)
theorem Kpt.narrow {b : Nat} {K K' : Nat → Prop} {hs hs' : List (List UInt8 × Ct)} {D D' : DV} {W0 W Y Z : World} (h : Kpt b K hs D W0 W) (os : Y.os = W.os) (tape : Y.tape = W.tape) (output : Y.output = W.output) (size : W.heap.size ≤ Y.heap.size) (blk : ∀ j, j < W.heap.size → Y.heap[j]? = W.heap[j]?)
    (h' : Kpt b K' hs' D' Y Z) (hK : ∀ j, K j → K' j) : Kpt b K hs' D' W0 Z :=
  have h1 := h.ext os tape output size blk
  ⟨h'.os.trans h1.os, h'.tape.trans h1.tape, h'.output.trans h1.output, Nat.le_trans h1.size h'.size, fun k v hc ha j hj hKj => h'.av k v hc ha j hj (hK j hKj), h.nb, h.lt, fun j hj => (h'.block j (hK j hj)).trans (h1.block j hj)⟩
end Go.Proofs.YtdbnddmncbjobaaGreatDoor

/- slices.Index and Contains of numbers, glyph.Count, book.within, book.wrong: walked. -/
namespace Go.Proofs.YtdbnddmncbjobaaGreatDoor
open Go Go.RowKit

def IxRel (v : Int) (xs : List Int) (W : World) (s8 : Value) (w' : World) : Prop := ∃ i : Nat, i ≤ xs.length ∧ s8 = .int .i64 i ∧ (∀ y ∈ xs.take i, (y == v) = false) ∧ W = w'
set_option maxHeartbeats 4000000 in
set_option maxRecDepth 100000 in
theorem index_int (P : Nat → Prop) (w : World) (A : Option Addr) (n c : Nat) (xs : List Int) (v : Int) (h : kInt.row w P A n xs) (hn : n ≤ 1000000) :
    Calls Tryz.prog 107 #[.slice A n c, .int .i64 v] w (fun e w' => e = .returned (.int .i64 (idxI (fun x => x == v) xs)) ∧ w = w') := by
  have HL := Lib.hid (Lay.row_len h)
  have HR := Lib.hid h
  clear h
  go_enter Tryz.func107, Tryz.ntmps107
  go_wp2_with fail
  go_loopw [5, 8] (fun _ s8 w' => IxRel v xs w s8 w') (fun _ s8 _ => toM n s8)
  case atStart => exact ⟨0, by omega, rfl, by simp, rfl⟩
  case round =>
    obtain ⟨i, hi, rfl, hno, rfl⟩ := hrel
    rw [← HL.out] at hi
    have HN := Lib.hid hno
    clear hno
    by_cases hlt : i < n
    case neg =>
      obtain rfl : i = n := by omega
      have hni : ¬ ((i : Int) < (i : Int)) := by omega
      have HF := Lib.hid (show idxI (fun x => x == v) xs = -1 from idxI_neg _ _ fun y hy => HN.out y (by rw [HL.out, List.take_length]; exact hy))
      go_wp2_with fail
      go_ret
      exact ⟨ret_i HF.out.symm, rfl⟩
    have hI : (i : Int) < (n : Int) := by omega
    obtain ⟨x, hxi⟩ : ∃ x, xs[i]? = some x := ⟨_, List.getElem?_eq_getElem (by have := HL.out; omega)⟩
    obtain ⟨b, off, rfl, hb1, _, hcell⟩ := int_at HR.out hxi
    have HX := Lib.hid hxi
    clear hxi
    by_cases hv : v = x
    · have hb : (v == x) = true := by simpa using hv
      have HF := Lib.hid (show idxI (fun x => x == v) xs = i from idxI_at _ _ i x HN.out HX.out (by simp [hv]))
      clear hv
      go_wp2_with fail
      go_ret
      exact ⟨ret_i HF.out.symm, rfl⟩
    · have hb : (v == x) = false := by simpa using hv
      have HNX := Lib.hid (take_none HN.out HX.out (show (x == v) = false by simp; exact fun e => hv e.symm))
      clear hv
      go_wp2_with fail
      go_roundw
      case rel => exact ⟨i + 1, by have := HL.out; omega, by simp, HNX.out, rfl⟩
      case measure => simp only [toM]; omega
theorem within_any (w : World) (n lo hi : Int) : Calls Tryz.prog 82 #[.int .i64 n, .int .i64 lo, .int .i64 hi] w (fun e w' => e = .returned (.bool (decide (lo ≤ n) && decide (n ≤ hi))) ∧ w = w') := by
  go_enter Tryz.func82, Tryz.ntmps82
  by_cases h1 : lo ≤ n
  · have g1 : decide (lo ≤ n) = true := by simpa using h1
    go_wp2
    go_ret
    simp [g1]
  · have g1 : decide (lo ≤ n) = false := by simpa using h1
    go_wp2
    go_ret
    simp
def CoR (w1 : World) (L : List (List Wd)) (s3 s13 : Value) (w' : World) : Prop := ∃ i : Nat, i ≤ L.length ∧ s13 = .int .i64 i ∧ s3 = .int .i64 (wordsN (L.take i) : Nat) ∧ w1 = w'
theorem wordsN_take (L : List (List Wd)) (i : Nat) {p : List Wd} (h : L[i]? = some p) : wordsN (L.take (i + 1)) = wordsN (L.take i) + p.length := by
  unfold wordsN
  rw [List.take_add_one, h]
  simp
theorem wordsN_le (L : List (List Wd)) (i : Nat) : wordsN (L.take i) ≤ wordsN L := by
  unfold wordsN
  conv => rhs; rw [← List.take_append_drop i L]
  rw [List.map_append, List.sum_append]
  omega
set_option maxHeartbeats 4000000 in
set_option maxRecDepth 100000 in
theorem count_any (P : Nat → Prop) (w : World) (A A' : Option Addr) (n n' c c' : Nat) (t : Tx) (h1 : kWs.row w P A n t.paras) (h2 : kWs.row w P A' n' t.notes) (hp : t.paras.length ≤ 10000) (hn : t.notes.length ≤ 10000) (hb : wordsN (t.paras ++ t.notes) ≤ 1000000) :
    Calls Tryz.prog 31 #[.agg #[.slice A n c, .slice A' n' c']] w (fun e w' => e = .returned (.int .i64 (wordsN (t.paras ++ t.notes) : Nat)) ∧ Ext w w') := by
  have HC := Lib.hid (fun X (hx : Ext w X) g hg g0 g1 => cat72 kWs rfl P X g A A' n n' c c' _ _ (Lay.row_ext h1 hx) (Lay.row_ext h2 hx) (by have := Lay.row_len h1; omega) (by have := Lay.row_len h2; omega) hg g0 g1)
  obtain ⟨L, hLe⟩ : ∃ L, t.paras ++ t.notes = L := ⟨_, rfl⟩
  obtain ⟨m, hm⟩ : ∃ m, L.length = m := ⟨_, rfl⟩
  have hm2 : m ≤ 20000 := by rw [← hm, ← hLe, List.length_append]; omega
  rw [hLe] at HC
  rw [hLe] at hb ⊢
  have HM := Lib.hid hm
  have HB := Lib.hid hb
  have HC2 := Lib.hid (fun X (hx : Ext w X) g hg g0 g1 => (show Calls Tryz.prog 72 #[.slice (some ⟨g, 0, none⟩) 2 2] X (fun e X' => ∃ A3 c3, e = .returned (.slice A3 m c3) ∧ kWs.row X' (fun j => P j ∨ X.heap.size ≤ j) A3 m L ∧ Ext X X') from by
    refine (HC.out X hx g hg g0 g1).mono ?_
    rintro e X' ⟨A3, c3, rfl, ho, hxx⟩
    obtain ⟨Ar, cr, er, _, hrow⟩ := Lay.own_row ho
    obtain ⟨e1, _, _⟩ := Value.slice.inj er
    subst hm
    rw [← e1] at hrow
    exact ⟨A3, c3, rfl, Lay.row_mono hrow fun j hj _ => hj.imp id fun hj => (Lay.own_lt ho j hj).1, hxx⟩))
  clear h1 h2 hp hn hLe hm hb HC
  go_enter Tryz.func31, Tryz.ntmps31
  go_wp2_with (first | (go_at_call 72; refine (HC2.out _ (((Ext.refl w).alloc _).alloc _) _ (by simp) (by go_simp) (by go_simp)).mono ?_; rintro e w1 ⟨A3, c3, rfl, hrow, hx⟩; have HRW := Lib.hid hrow; have HX := Lib.hid ((((Ext.refl w).alloc _).alloc _).trans hx); clear hrow hx))
  go_loopw [3, 5, 13] (fun s3 _ s13 w' => CoR w1 L s3 s13 w') (fun _ _ s13 _ => toM m s13)
  case atStart => exact ⟨0, by omega, rfl, by simp [wordsN], rfl⟩
  case round =>
    obtain ⟨i, hi, rfl, rfl, rfl⟩ := hrel
    rw [HM.out] at hi
    have hq1 := wordsN_le L i
    have hq2 := HB.out
    obtain ⟨q, hq⟩ : ∃ q, wordsN (L.take i) = q := ⟨_, rfl⟩
    rw [hq] at hq1 ⊢
    have HQ := Lib.hid hq
    clear hq
    by_cases hlt : i < m
    case neg =>
      obtain rfl : i = m := by omega
      have hni : ¬ ((i : Int) < (i : Int)) := by omega
      have HF := Lib.hid (show ((wordsN L : Nat) : Int) = (q : Int) by rw [← HQ.out, ← HM.out, List.take_length])
      go_wp2_with fail
      go_ret
      exact ⟨ret_i HF.out.symm, HX.out⟩
    have hI : (i : Int) < (m : Int) := by omega
    obtain ⟨p, hpi⟩ : ∃ p, L[i]? = some p := ⟨_, List.getElem?_eq_getElem (by have := HM.out; omega)⟩
    obtain ⟨bl, ol, cl, rfl, hbl, _, hrl, hcl⟩ := Lay.row_at HRW.out hpi
    obtain ⟨Ap, cp, rfl, _, _⟩ := kWs_rep.1 hrl
    have e0 := hcl 0 _ rfl
    rw [show kWs.sz = 1 from rfl, Nat.mul_one, Nat.add_zero] at e0
    have HST := Lib.hid (wordsN_take L i hpi)
    have hq3 := wordsN_le L (i + 1)
    rw [HST.out, HQ.out] at hq3
    have HPI := Lib.hid hpi
    clear hcl hrl hpi
    go_wp2_with fail
    go_roundw
    case rel => exact ⟨i + 1, by have := HM.out; omega, by simp, by rw [HST.out, HQ.out]; simp, rfl⟩
    case measure => simp only [toM]; omega
end Go.Proofs.YtdbnddmncbjobaaGreatDoor

/- book.Where: walked. -/
namespace Go.Proofs.YtdbnddmncbjobaaGreatDoor
open Go Go.RowKit Go.Shelf
attribute [local go_sem] Oper.semAt_some

variable {β : Type}
/-- Between two rounds: the word has not been found. -/
structure WhI (w : World) (e v wd : Int) (pre : List PgV) (q : Nat → Prop) (W : World) : Prop where
  x : Ext w W
  s : w.heap.size + 10 ≤ W.heap.size
  q : ∀ j, q j → j < w.heap.size ∨ j = w.heap.size + 7 ∨ w.heap.size + 10 ≤ j
  a1 : W.heap[w.heap.size + 1]? = some (.cells #[.int .i64 e] 3 (0, 0))
  a2 : W.heap[w.heap.size + 2]? = some (.cells #[.int .i64 v] 3 (0, 0))
  a3 : W.heap[w.heap.size + 3]? = some (.cells #[.int .i64 wd] 3 (0, 0))
  r4 : W.heap[w.heap.size + 4]? = some (.cells #[.int .i64 0, .int .i64 0] 64 (0, 0))
  r5 : W.heap[w.heap.size + 5]? = some (.cells #[.int .i64 0] 3 (0, 0))
  r6 : W.heap[w.heap.size + 6]? = some (.cells #[.bool false] 4 (0, 0))
  n : whereG e v wd (pre.map (·.1)) = none
/-- It has been. -/
structure WhX (w : World) (e v wd : Int) (c : Code) (pre : List PgV) (q : Nat → Prop) (W : World) : Prop where
  c : c = .ret
  x : Ext w W
  s : w.heap.size + 10 ≤ W.heap.size
  p : ∃ (n s : Int) (i : Nat), (∀ R, whereG e v wd (pre.map (·.1) ++ R) = some (n, s, i)) ∧ W.heap[w.heap.size + 4]? = some (.cells #[.int .i64 n, .int .i64 s] 64 (0, 0)) ∧ W.heap[w.heap.size + 5]? = some (.cells #[.int .i64 i] 3 (0, 0))
  b : W.heap[w.heap.size + 6]? = some (.cells #[.bool true] 4 (0, 0))
theorem WhI.ab {w wl : World} {e v wd : Int} (hs : wl.heap.size = w.heap.size + 8) : AbMv (wl.heap.size + 2) (WhI w e v wd) := by
  intro s Q Q' A B h hm hg
  have hsz := h.s
  refine ⟨hm.ext w (by omega) h.x, Nat.le_trans h.s hm.size, fun j hj => ?_, hm.blk (by omega) h.a1, hm.blk (by omega) h.a2, hm.blk (by omega) h.a3, hm.blk (by omega) h.r4, hm.blk (by omega) h.r5, hm.blk (by omega) h.r6, h.n⟩
  rcases hg j hj with h1 | h1 | h1
  · exact h.q j h1
  · omega
  · omega
theorem WhI.put {w wl : World} {e v wd : Int} (hs : wl.heap.size = w.heap.size + 8) {s : List PgV} {q : Nat → Prop} {W : World} {o : Obj} (h : WhI w e v wd s q W) : WhI w e v wd s q (W.putObj (wl.heap.size + 1) o) :=
  ⟨h.x.putObj (by omega) o, by simpa using h.s, h.q, (World.putObj_heap_other (by omega)).trans h.a1, (World.putObj_heap_other (by omega)).trans h.a2, (World.putObj_heap_other (by omega)).trans h.a3, (World.putObj_heap_other (by omega)).trans h.r4, (World.putObj_heap_other (by omega)).trans h.r5, (World.putObj_heap_other (by omega)).trans h.r6, h.n⟩
theorem WhX.ab {w wl : World} {e v wd : Int} (hs : wl.heap.size = w.heap.size + 8) (c : Code) : AbMv (wl.heap.size + 2) (WhX w e v wd c) := by
  intro s Q Q' A B h hm hg
  obtain ⟨n, k, i, h1, h2, h3⟩ := h.p
  have hsz := h.s
  exact ⟨h.c, hm.ext w (by omega) h.x, Nat.le_trans h.s hm.size, ⟨n, k, i, h1, hm.blk (by omega) h2, hm.blk (by omega) h3⟩, hm.blk (by omega) h.b⟩
theorem WhX.put {w wl : World} {e v wd : Int} (hs : wl.heap.size = w.heap.size + 8) {c : Code} {s : List PgV} {q : Nat → Prop} {W : World} {k : Nat} {o : Obj} (hk : k = wl.heap.size + 1 ∨ k = wl.heap.size) (h : WhX w e v wd c s q W) : WhX w e v wd c s q (W.putObj k o) := by
  obtain ⟨n, m, i, h1, h2, h3⟩ := h.p
  exact ⟨h.c, h.x.putObj (by omega) o, by simpa using h.s, ⟨n, m, i, h1, (World.putObj_heap_other (by omega)).trans h2, (World.putObj_heap_other (by omega)).trans h3⟩, (World.putObj_heap_other (by omega)).trans h.b⟩
end Go.Proofs.YtdbnddmncbjobaaGreatDoor
