/- A row of the map grows: look-up, append, store. -/
import Derived.Test.YtdbnddmncbjobaaGreatDoorMbc
namespace Go.Proofs.YtdbnddmncbjobaaGreatDoor
section
open Go Go.RowKit Go.Maps
attribute [local go_sem] Oper.semAt_some
theorem step_mapU {P : Program} {w : World} {ys : Nat → Option Bool} {o : Oper} {a : Act} {K : Act → World → Prop} {Q : Exit → Act → World → Prop} {E : Prop} {t : TypeId} {m k x : Operand} {vm vk vx : Value} {w' : World}
  (hr : (Instr.mapUpdate t vm vk vx).run P w = .ok () w') (hgd : o.guard = none) (ho : o.op = .mapUpdate t m k x) (hm : a.eval m = vm) (hk : a.eval k = vk) (hx : a.eval x = vx)
  (h : K (a.put o.dst undef) w') : if Region.wanted o ys = true then Oper.wp P o a w K Q else E := by
 have hw : Region.wanted o ys = true := by simp [Region.wanted, hgd]
 rw [if_pos hw]
 unfold Oper.wp
 simp [execOp, ho, hm, hk, hx, hr, Result.andThen]
 exact h
theorem GMap.raise {B B' b n : Nat} {D : DV} {W : World} (h : GMap B b n [] D W) (hB : b < B') : GMap B' b n [] D W :=
 ⟨h.own, hB, h.key, h.has, fun _ hk => absurd rfl hk, h.ap⟩
theorem GMap.look2 {B b n : Nat} {hs : List (List UInt8 × Ct)} {D : DV} {W : World} (h : GMap B b n hs D W) {k : List UInt8} (hk : k.length ≤ maxLen) :
  ∃ v, (∀ X : World, X.ownsMap Tryz.prog 9 rV b n D → (Instr.lookup 105 (.map (some b)) (.string ⟨k.toArray⟩) false).run Tryz.prog X = .ok v X) ∧ kCt.own 69 W B (fun _ => False) v (csOf hs k) ∧
   ∀ k' v', k ≠ k' → csOf hs k' ≠ [] → AtK D k' v' → ∀ j, v.ownBlock = some j → v'.ownBlock ≠ some j := by
 obtain ⟨v, hrun, ho, hap⟩ := h.look hk
 refine ⟨v, fun X hX => ?_, ho, hap⟩
 obtain ⟨v1, p1, r1, e1⟩ := h.own.lookup (t := 105) (e := 38) lawS Tryz.underlying105 (z := .slice none 0 0) (Tryz.zeroValue38 W) (zd := .held (.slice none 0 0)) (zp := []) rfl (keyS hk)
 obtain ⟨v2, p2, r2, e2⟩ := hX.lookup (t := 105) (e := 38) lawS Tryz.underlying105 (z := .slice none 0 0) (Tryz.zeroValue38 X) (zd := .held (.slice none 0 0)) (zp := []) rfl (keyS hk)
 rw [hrun] at r1
 obtain rfl : v = v1 := (Result.ok.inj r1).1
 have : v2 = v := by
  unfold rV at e1 e2
  simp only [Option.some.injEq, Prod.mk.injEq] at e1 e2
  have := e2.1.trans e1.1.symm
  injection this
 subst this
 exact r2
theorem own_lenF {W : World} {B : Nat} {v : Value} {xs : List Ct} (h : kCt.own 69 W B (fun _ => False) v xs) (X : World) (hX : W.grownBy X none) : kCt.own 69 X B (fun _ => False) v xs := Lay.own_keep h hX.size fun j _ hjl => hX.block j hjl (by simp)
structure Pushed (B b n : Nat) (hs : List (List UInt8 × Ct)) (W X : World) (k : List UInt8) (ys : List Ct) (v : Value) (D' : DV) (X2 : World) : Prop where
 gm : GMap B b (n + 1) (hs ++ ys.map fun c => (k, c)) D' X2
 size : X.heap.size ≤ X2.heap.size
 os : X2.os = X.os
 tape : X2.tape = X.tape
 output : X2.output = X.output
 block : ∀ j, j < X.heap.size → (j < B ∨ W.heap.size ≤ j) → j ≠ b → X2.heap[j]? = X.heap[j]?
theorem GMap.push {B b n : Nat} {hs : List (List UInt8 × Ct)} {D : DV} {W : World} (h : GMap B b n hs D W) (hB : B ≤ W.heap.size) {k : List UInt8} (hk : k.length ≤ maxLen) (hn : n < 40000000) (hl : hs.length ≤ 40000000) :
  ∃ v, (∀ X : World, X.ownsMap Tryz.prog 9 rV b n D → (Instr.lookup 105 (.map (some b)) (.string ⟨k.toArray⟩) false).run Tryz.prog X = .ok v X) ∧
   ∀ (X : World) (_ : W.grownBy X none) (P : Nat → Prop) (A : Option Addr) (m c : Nat) (ys : List Ct), kCt.row X P A m ys → ys ≠ [] → ys.length ≤ 40000000 →
    ∃ A' m' c' X1, (Builtin.append_ #[38, 38] 38 #[v, .slice A m c]).run Tryz.prog X = .ok (.slice A' m' c') X1 ∧ X1.ownsMap Tryz.prog 9 rV b n D ∧ X.heap.size ≤ X1.heap.size ∧ (∀ j, j < X.heap.size → (j < B ∨ W.heap.size ≤ j) → j ≠ b → X1.heap[j]? = X.heap[j]?) ∧
     ∃ D' X2, (Instr.mapUpdate 105 (.map (some b)) (.string ⟨k.toArray⟩) (.slice A' m' c')).run Tryz.prog X1 = .ok () X2 ∧ Pushed B b n hs W X k ys v D' X2 := by
 obtain ⟨v, hlook, ho, hap⟩ := h.look2 hk
 refine ⟨v, hlook, fun X hX P A m c ys hr hy hyl => ?_⟩
 have hvl := Lay.own_lt ho
 have hoX := own_lenF ho X hX
 have hlen := csOf_len hs k
 have hrl := Lay.row_len hr
 obtain ⟨ds, e1, e2, e3, e4, e5⟩ := hr
 obtain ⟨A', c', X1, hrun, ho1, hb1, hk1, hs1, hn1⟩ := Lay.own_append (k := kCt) (P := Tryz.prog) (t := 38) (e := 69) Tryz.underlying38 info69 rfl (by decide) (by omega) hoX e3 e2 (fun i d x hd hx => kCt_rep.2 (kCt_rep.1 (e5 i d x hd hx))) c (by omega) (Nat.le_trans hB hX.size)
 have hbW := h.own.lt
 have hmap1 : X1.ownsMap Tryz.prog 9 rV b n D := by
  obtain ⟨es, clock, hb, F, hsz, hD⟩ := h.own
  exact ⟨es, clock, (hk1 b (Nat.lt_of_lt_of_le hbW hX.size) (fun e => by have := (hvl b e).1; have := h.lt; omega)).trans ((hX.block b hbW (by simp)).trans hb), F, hsz, hD⟩
 have kk : ∀ j, j < X.heap.size → (j < B ∨ W.heap.size ≤ j) → X1.heap[j]? = X.heap[j]? := fun j hj hj2 => hk1 j hj fun e => by
  have := hvl j e; omega
 refine ⟨A', _, c', X1, hrun, hmap1, hs1, fun j hj hj2 _ => kk j hj hj2, ?_⟩
 obtain ⟨X2, hrun2, hg2, hgr⟩ := (h.keep hX).store (W1 := X1) hk (by unfold maxLen; omega) (v := v) (v' := .slice A' ((csOf hs k).length + m) c') (ys := ys) hy hap (fun j hj => (hvl j hj).1) hs1 (fun j hj hne => hk1 j hj hne) ho1 (fun j hj => (hn1 j hj).imp id id)
 refine ⟨_, X2, hrun2, hg2, Nat.le_trans hs1 hgr.size, hgr.os.trans (hb1 0 (Nat.zero_le _)).os, hgr.tape.trans (hb1 0 (Nat.zero_le _)).tape, hgr.output.trans (hb1 0 (Nat.zero_le _)).output, fun j hj hj2 hjb => ?_⟩
 exact (hgr.block j (Nat.lt_of_lt_of_le hj hs1) fun e => hjb (Option.some.inj e)).trans (kk j hj hj2)
def GAv (K : Nat → Prop) (D : DV) (hs : List (List UInt8 × Ct)) : Prop := ∀ k v, csOf hs k ≠ [] → AtK D k v → ∀ j, v.ownBlock = some j → ¬ K j
structure Pushd (B b n : Nat) (hs : List (List UInt8 × Ct)) (D : DV) (X : World) (k : List UInt8) (ys : List Ct) (v : Value) (D' : DV) (X2 : World) : Prop where
 gm : GMap B b (n + 1) (hs ++ ys.map fun c => (k, c)) D' X2
 size : X.heap.size ≤ X2.heap.size
 os : X2.os = X.os
 tape : X2.tape = X.tape
 output : X2.output = X.output
 block : ∀ j, j < X.heap.size → v.ownBlock ≠ some j → j ≠ b → X2.heap[j]? = X.heap[j]?
 av : ∀ K : Nat → Prop, GAv K D hs → (∀ j, K j → j < X.heap.size) → GAv K D' (hs ++ ys.map fun c => (k, c))
theorem GMap.look3 {B b n : Nat} {hs : List (List UInt8 × Ct)} {D : DV} {W : World} (h : GMap B b n hs D W) {k : List UInt8} (hk : k.length ≤ maxLen) :
  ∃ v, (∀ X : World, X.ownsMap Tryz.prog 9 rV b n D → (Instr.lookup 105 (.map (some b)) (.string ⟨k.toArray⟩) false).run Tryz.prog X = .ok v X) ∧ kCt.own 69 W B (fun _ => False) v (csOf hs k) ∧
   (∀ k' v', k ≠ k' → csOf hs k' ≠ [] → AtK D k' v' → ∀ j, v.ownBlock = some j → v'.ownBlock ≠ some j) ∧ (v = .slice none 0 0 ∨ (csOf hs k ≠ [] ∧ AtK D k v)) := by
 obtain ⟨v, hlook, ho, hap⟩ := h.look2 hk
 refine ⟨v, hlook, ho, hap, ?_⟩
 obtain ⟨v1, p1, r1, e1⟩ := h.own.lookup (t := 105) (e := 38) lawS Tryz.underlying105 (z := .slice none 0 0) (Tryz.zeroValue38 W) (zd := .held (.slice none 0 0)) (zp := []) rfl (keyS hk)
 obtain rfl : v = v1 := (Result.ok.inj ((hlook W h.own).symm.trans r1)).1
 have e2 : D.atKey (.string k) (.held (.slice none 0 0)) = .held v := by
  unfold rV at e1; simp only [Option.some.injEq, Prod.mk.injEq] at e1; exact e1.1.symm
 by_cases hc : csOf hs k = []
 ·left
  have hf : Maps.has D (.string k) = false := by
   cases h9 : Maps.has D (.string k)
   ·rfl
   ·exact absurd hc ((h.has k).1 h9)
  rw [atKey_of_not_has hf] at e2
  exact (DataW.held.inj e2).symm
 ·right
  obtain ⟨v2, h2, h3⟩ := h.row k hc
  rw [h2] at e2
  obtain rfl : v2 = v := DataW.held.inj e2
  exact ⟨hc, h2⟩
theorem GMap.push2 {B b n : Nat} {hs : List (List UInt8 × Ct)} {D : DV} {W : World} (h : GMap B b n hs D W) (hB : B ≤ W.heap.size) {k : List UInt8} (hk : k.length ≤ maxLen) (hn : n < 40000000) (hl : hs.length ≤ 40000000) :
  ∃ v, (∀ X : World, X.ownsMap Tryz.prog 9 rV b n D → (Instr.lookup 105 (.map (some b)) (.string ⟨k.toArray⟩) false).run Tryz.prog X = .ok v X) ∧ (∀ K : Nat → Prop, GAv K D hs → ∀ j, v.ownBlock = some j → ¬ K j) ∧ (∀ j, v.ownBlock = some j → j < W.heap.size) ∧
   ∀ (X : World) (_ : W.grownBy X none) (P : Nat → Prop) (A : Option Addr) (m c : Nat) (ys : List Ct), kCt.row X P A m ys → ys ≠ [] → ys.length ≤ 10000000 →
    ∃ A' m' c' X1, (Builtin.append_ #[38, 38] 38 #[v, .slice A m c]).run Tryz.prog X = .ok (.slice A' m' c') X1 ∧ X1.ownsMap Tryz.prog 9 rV b n D ∧ (∀ j, j < X.heap.size → v.ownBlock ≠ some j → X1.heap[j]? = X.heap[j]?) ∧
     ∃ D' X2, (Instr.mapUpdate 105 (.map (some b)) (.string ⟨k.toArray⟩) (.slice A' m' c')).run Tryz.prog X1 = .ok () X2 ∧ Pushd B b n hs D X k ys v D' X2 := by
 obtain ⟨v, hlook, ho, hap, hvc⟩ := h.look3 hk
 have hvl := Lay.own_lt ho
 have hvK : ∀ K : Nat → Prop, GAv K D hs → ∀ j, v.ownBlock = some j → ¬ K j := fun K hK j hj => by
  rcases hvc with rfl | ⟨hc, ha⟩
  ·simp [Value.ownBlock] at hj
  ·exact hK k v hc ha j hj
 refine ⟨v, hlook, hvK, fun j hj => (hvl j hj).2, fun X hX P A m c ys hr hy hyl => ?_⟩
 have hoX := own_lenF ho X hX
 have hlen := csOf_len hs k
 have hrl := Lay.row_len hr
 obtain ⟨ds, e1, e2, e3, e4, e5⟩ := hr
 obtain ⟨A', c', X1, hrun, ho1, hb1, hk1, hs1, hn1⟩ := Lay.own_append (k := kCt) (P := Tryz.prog) (t := 38) (e := 69) Tryz.underlying38 info69 rfl (by decide) (by omega) hoX e3 e2 (fun i d x hd hx => kCt_rep.2 (kCt_rep.1 (e5 i d x hd hx))) c (by omega) (Nat.le_trans hB hX.size)
 have hbW := h.own.lt
 have hmap1 : X1.ownsMap Tryz.prog 9 rV b n D := by
  obtain ⟨es, clock, hb, F, hsz, hD⟩ := h.own
  exact ⟨es, clock, (hk1 b (Nat.lt_of_lt_of_le hbW hX.size) (fun e => by have := (hvl b e).1; have := h.lt; omega)).trans ((hX.block b hbW (by simp)).trans hb), F, hsz, hD⟩
 refine ⟨A', _, c', X1, hrun, hmap1, hk1, ?_⟩
 obtain ⟨X2, hrun2, hg2, hgr⟩ := (h.keep hX).store (W1 := X1) hk (by unfold maxLen; omega) (v := v) (v' := .slice A' ((csOf hs k).length + m) c') (ys := ys) hy hap (fun j hj => (hvl j hj).1) hs1 (fun j hj hne => hk1 j hj hne) ho1 (fun j hj => (hn1 j hj).imp id id)
 refine ⟨_, X2, hrun2, hg2, Nat.le_trans hs1 hgr.size, hgr.os.trans (hb1 0 (Nat.zero_le _)).os, hgr.tape.trans (hb1 0 (Nat.zero_le _)).tape, hgr.output.trans (hb1 0 (Nat.zero_le _)).output, fun j hj hj2 hjb => ?_, fun K hK hKl k' u hc ha j hj hKj => ?_⟩
 ·exact (hgr.block j (Nat.lt_of_lt_of_le hj hs1) fun e => hjb (Option.some.inj e)).trans (hk1 j hj hj2)
 ·have hm : IsMap D := by obtain ⟨es, _, _, _, _, rfl⟩ := h.own; exact ⟨_, rfl⟩
  by_cases e : k = k'
  ·subst e
   have hput : AtK (D.put (.string k) (.held (.slice A' ((csOf hs k).length + m) c'))) k (.slice A' ((csOf hs k).length + m) c') := fun z => atKey_put_same hm (keyLit hk) _ _
   rw [AtK.one ha hput] at hj
   rcases hn1 j hj with h9 | h9
   ·exact hvK K hK j h9 hKj
   ·have := hKl j hKj; omega
  ·have hne : Lit.string k' ≠ Lit.string k := fun e9 => e (Lit.string.inj e9).symm
   have ha' : AtK D k' u := fun z => by have := ha z; rwa [atKey_put_other hne] at this
   rw [csOf_append, csOf_other e, List.append_nil] at hc
   exact hK k' u hc ha' j hj hKj
structure Kpt (b : Nat) (K : Nat → Prop) (hs : List (List UInt8 × Ct)) (D : DV) (W0 W : World) : Prop where
 os : W.os = W0.os
 tape : W.tape = W0.tape
 output : W.output = W0.output
 size : W0.heap.size ≤ W.heap.size
 av : GAv K D hs
 nb : ¬ K b
 lt : ∀ j, K j → j < W0.heap.size
 block : ∀ j, K j → W.heap[j]? = W0.heap[j]?
theorem Kpt.start {b : Nat} {K : Nat → Prop} {hs : List (List UInt8 × Ct)} {D : DV} {W : World} (av : GAv K D hs) (nb : ¬ K b) (lt : ∀ j, K j → j < W.heap.size) : Kpt b K hs D W W := ⟨rfl, rfl, rfl, Nat.le_refl _, av, nb, lt, fun _ _ => rfl⟩
theorem Kpt.ext {b : Nat} {K : Nat → Prop} {hs : List (List UInt8 × Ct)} {D : DV} {W0 W Y : World} (h : Kpt b K hs D W0 W) (os : Y.os = W.os) (tape : Y.tape = W.tape) (output : Y.output = W.output) (size : W.heap.size ≤ Y.heap.size) (blk : ∀ j, j < W.heap.size → Y.heap[j]? = W.heap[j]?) : Kpt b K hs D W0 Y :=
 ⟨os.trans h.os, tape.trans h.tape, output.trans h.output, Nat.le_trans h.size size, h.av, h.nb, h.lt, fun j hj => (blk j (Nat.lt_of_lt_of_le (h.lt j hj) h.size)).trans (h.block j hj)⟩
theorem Kpt.push {B b n : Nat} {K : Nat → Prop} {hs : List (List UInt8 × Ct)} {D D' : DV} {W0 X X2 : World} {k : List UInt8} {ys : List Ct} {v : Value} (h : Kpt b K hs D W0 X) (hv : ∀ K : Nat → Prop, GAv K D hs → ∀ j, v.ownBlock = some j → ¬ K j) (hp : Pushd B b n hs D X k ys v D' X2) : Kpt b K (hs ++ ys.map fun c => (k, c)) D' W0 X2 :=
 have hl : ∀ j, K j → j < X.heap.size := fun j hj => Nat.lt_of_lt_of_le (h.lt j hj) h.size
 ⟨hp.os.trans h.os, hp.tape.trans h.tape, hp.output.trans h.output, Nat.le_trans h.size hp.size, hp.av K h.av hl, h.nb, h.lt, fun j hj => (hp.block j (hl j hj) (fun e => hv K h.av j e hj) (fun e => h.nb (e ▸ hj))).trans (h.block j hj)⟩
theorem Kpt.widen {B b n : Nat} {K : Nat → Prop} {hs : List (List UInt8 × Ct)} {D : DV} {W0 W Y : World} (h : Kpt b K hs D W0 W) (hg : GMap B b n hs D W) (size : W.heap.size ≤ Y.heap.size) : Kpt b (fun j => K j ∨ (W.heap.size ≤ j ∧ j < Y.heap.size)) hs D Y Y :=
 Kpt.start (fun k v hc ha j hj hKj => by
  rcases hKj with hKj | hKj
  ·exact h.av k v hc ha j hj hKj
  ·obtain ⟨v', h1, h2⟩ := hg.row k hc
   rw [AtK.one ha h1] at hj
   have := (Lay.own_lt h2 j hj).2
   omega) (fun hb => hb.elim h.nb fun hb => by have := hg.own.lt; omega) fun j hj => hj.elim (fun hj => Nat.lt_of_lt_of_le (h.lt j hj) (Nat.le_trans h.size size)) (·.2)
theorem Kpt.narrow {b : Nat} {K K' : Nat → Prop} {hs hs' : List (List UInt8 × Ct)} {D D' : DV} {W0 W Y Z : World} (h : Kpt b K hs D W0 W) (os : Y.os = W.os) (tape : Y.tape = W.tape) (output : Y.output = W.output) (size : W.heap.size ≤ Y.heap.size) (blk : ∀ j, j < W.heap.size → Y.heap[j]? = W.heap[j]?)
  (h' : Kpt b K' hs' D' Y Z) (hK : ∀ j, K j → K' j) : Kpt b K hs' D' W0 Z :=
 have h1 := h.ext os tape output size blk
 ⟨h'.os.trans h1.os, h'.tape.trans h1.tape, h'.output.trans h1.output, Nat.le_trans h1.size h'.size, fun k v hc ha j hj hKj => h'.av k v hc ha j hj (hK j hKj), h.nb, h.lt, fun j hj => (h'.block j (hK j hj)).trans (h1.block j hj)⟩
end
section
open Go Go.RowKit Go.Maps
attribute [local go_sem] Oper.semAt_some
structure Bsd (B b : Nat) (W X : World) : Prop where
 os : X.os = W.os
 tape : X.tape = W.tape
 output : X.output = W.output
 size : W.heap.size ≤ X.heap.size
 block : ∀ j, j < B → j ≠ b → X.heap[j]? = W.heap[j]?
theorem Bsd.refl (B b : Nat) (W : World) : Bsd B b W W := ⟨rfl, rfl, rfl, Nat.le_refl _, fun _ _ _ => rfl⟩
theorem Bsd.ext {B b : Nat} {W X : World} (h : Bsd B b W X) (hB : B ≤ W.heap.size) {Y : World} (hY : Ext X Y) : Bsd B b W Y :=
 ⟨hY.os.trans h.os, hY.tape.trans h.tape, hY.output.trans h.output, Nat.le_trans h.size hY.size, fun j hj hb => (hY.block j (by have := h.size; omega)).trans (h.block j hj hb)⟩
theorem Bsd.push {B b n : Nat} {hs : List (List UInt8 × Ct)} {W0 W X X2 : World} {k : List UInt8} {ys : List Ct} {v : Value} {D' : DV} (h : Bsd B b W0 W) (hB : B ≤ W0.heap.size) (hX : Ext W X) (hp : Pushed B b n hs W X k ys v D' X2) : Bsd B b W0 X2 :=
 have h2 := h.ext hB hX
 ⟨hp.os.trans h2.os, hp.tape.trans h2.tape, hp.output.trans h2.output, Nat.le_trans h2.size hp.size, fun j hj hb => (hp.block j (by have := h2.size; omega) (.inl hj) hb).trans (h2.block j hj hb)⟩
theorem Ext.grown {W X : World} (h : Ext W X) : W.grownBy X none := ⟨h.os, h.tape, h.output, h.size, fun j hj _ => h.block j hj⟩
def MeR (B b N : Nat) (U : Tb) (w2 : World) (s14 : Value) (W : World) : Prop := ∃ (i : Nat) (D : DV), i ≤ N ∧ s14 = .int .i64 i ∧ GMap B b i (prs (U.take i)) D W ∧ Bsd B b w2 W
set_option maxHeartbeats 4000000 in
set_option maxRecDepth 100000 in
theorem imerge_any (w : World) (A A' : Option Addr) (n n' c c' M M' : Nat) (S T : Tb) (hS : TbV w A n c S M) (hT : TbV w A' n' c' T M') (hM : M + M' ≤ 10000) :
  Calls Tryz.prog 25 #[.slice A n c, .slice A' n' c'] w fun e w' => ∃ A1 n1 c1, e = .returned (.slice A1 n1 c1) ∧ TbV w' A1 n1 c1 (mrgP S T) (M + M') ∧ Ext w w' := by
 have hmm := @run_makeMap Tryz.prog
 obtain ⟨hn, hnM, _⟩ := hS.n
 obtain ⟨hn', hnM', _⟩ := hT.n
 obtain ⟨U, hU⟩ : ∃ U, S ++ T = U := ⟨_, rfl⟩
 have HUL := Hd (show U.length = n + n' by rw [← hU, List.length_append, hn, hn'])
 have HUP := Hd (show (prs U).length ≤ M + M' by rw [← hU, prs_append, List.length_append]; have := hS.len; have := hT.len; omega)
 have HUK := Hd (show ∀ x ∈ U, x.1.length ≤ 1000 ∧ x.2 ≠ [] by
  rw [← hU]; intro x hx
  rcases List.mem_append.1 hx with hx | hx
  ·exact ⟨hS.key x hx, hS.reg.some x hx⟩
  ·exact ⟨hT.key x hx, hT.reg.some x hx⟩)
 have HMR := Hd (show tabP (prs U) = mrgP S T by unfold mrgP; rw [← hU, prs_append])
 obtain ⟨b, hb⟩ : ∃ b, w.heap.size = b := ⟨_, rfl⟩
 obtain ⟨w0, hw0⟩ : ∃ w0, w.alloc (.map #[] 0) = w0 := ⟨_, rfl⟩
 have hx0 : Ext w w0 := by rw [← hw0]; exact (Ext.refl w).alloc _
 have hg0 : GMap (b + 1) b 0 [] (.map []) w0 := by rw [← hw0, ← hb]; exact GMap.made w
 obtain ⟨g, hg⟩ : ∃ g, w0.heap.size = g := ⟨_, rfl⟩
 have hgb : g = b + 1 := by rw [← hg, ← hw0, ← hb]; simp
 subst hgb
 obtain ⟨w1, hw1⟩ : ∃ w1, w0.alloc (.cells #[.slice A n c, .slice A' n' c'] 33) = w1 := ⟨_, rfl⟩
 have hx1 : Ext w0 w1 := by rw [← hw1]; exact (Ext.refl w0).alloc _
 have hG : w1.heap[b + 1]? = some (.cells #[.slice A n c, .slice A' n' c'] 33 (0, 0)) := by rw [← hw1, ← hg]; exact heap_alloc_new _ _
 have HCAT := Hd (cat70 kIt kIt_sz (fun j => j < b) w1 (b + 1) A A' n n' c c' S T (Lay.row_ext (Lay.row_mono hS.row fun j _ hj => by rw [← hb]; exact hj) (hx0.trans hx1)) (Lay.row_ext (Lay.row_mono hT.row fun j _ hj => by rw [← hb]; exact hj) (hx0.trans hx1)) (by omega) (by omega) (lt_of_block hG) (cof hG (i := 0) rfl) (cof hG (i := 1) rfl))
 rw [hU] at HCAT
 have HG0 := Hd hg0
 have HX0 := Hd hx0
 have HX1 := Hd hx1
 have HGB := Hd hG
 have hb1 : b + 1 ≤ w1.heap.size := by have := hx1.lt; omega
 have HB1 := Hd hb1
 obtain ⟨N, hN⟩ : ∃ N, n + n' = N := ⟨_, rfl⟩
 have HN := Hd hN
 have HWB := Hd hb
 clear hS hT hn hn' hU hg0 hx0 hx1 hG hb1
 go_enter Tryz.func25, Tryz.ntmps25
 go_wp2_with (first
  | (go_at_call 70; refine (HCAT.out).mono ?_; rintro e w2 ⟨A1, c1, rfl, ho, hx2⟩; have HO := Hd ho; have HX2 := Hd hx2; clear ho hx2))
 rw [HUL.out, HN.out] at HO ⊢
 obtain ⟨B, hB⟩ : ∃ B, w2.heap.size = B := ⟨_, rfl⟩
 have hBb : b + 1 < B := by have := HX2.out.lt; have := lt_of_block HGB.out; omega
 have hgm := ((HG0.out.keep (HX1.out.trans HX2.out).grown).raise (B' := B) (by omega))
 have HRU := Hd (show kIt.row w2 (fun j => j < B ∧ j ≠ b) A1 N U from by
  obtain ⟨A9, c9, e9, _, hr9⟩ := Lay.own_row HO.out
  have hlt := Lay.own_lt HO.out
  obtain ⟨rfl, e2, _⟩ := Value.slice.inj e9
  rw [← e2] at hr9
  refine Lay.row_mono hr9 fun j hj hjl => ⟨by omega, ?_⟩
  rcases hj with hj | hj
  ·omega
  ·have := (hlt j hj).1; have := HB1.out; omega)
 have HXB := Hd (show Ext w w2 from HX0.out.trans (HX1.out.trans HX2.out))
 have HBB := Hd (And.intro hBb hB)
 have HG2 := Hd hgm
 have hN4 : N ≤ 10000 := by have := HN.out; omega
 clear hgm hBb hB HG0 HO HX0 HX1 HX2 HCAT HGB HB1
 go_loopw [7, 14] (fun _ s14 W => MeR B b N U w2 s14 W) (fun _ s14 _ => toM N s14)
 case atStart => exact ⟨0, .map [], by omega, rfl, HG2.out, Bsd.refl _ _ _⟩
 obtain ⟨i, D, hi, rfl, hgm, hbs⟩ := hrel
 have HGM := Hd hgm
 have HBS := Hd hbs
 clear hgm hbs
 have hw1' : IntKind.i64.wrap ((i : Int) + 1) = (i : Int) + 1 := IntWalk.i64_in _ (by omega)
 by_cases hlt : i < N
 case neg =>
  have hni : ¬ ((i : Int) < (N : Int)) := by omega
  have hti : U.take i = U := List.take_of_length_le (by rw [HUL.out, HN.out]; omega)
  have hgm9 := HGM.out
  rw [hti] at hgm9
  have hBw : B ≤ wr.heap.size := by have := HBB.out.2; have := HBS.out.size; omega
  have HIT := Hd (items_any wr B b i (prs U) D hgm9 hBw (by have := HUP.out; omega) (fun h hh => by
   obtain ⟨l, hl, _⟩ := (mem_prs U h.1 h.2).1 hh
   exact (HUK.out _ hl).1))
  clear hgm9 hti hBw
  go_wp2_with (first | (go_at_call 57; refine (HIT.out).mono ?_; rintro e w5 ⟨A5, m5, c5, rfl, hT5, hb5⟩; have HT5 := Hd hT5; have HB5 := Hd hb5; clear hT5 hb5))
  go_ret
  refine ⟨A5, m5, c5, rfl, by rw [← HMR.out]; exact HT5.out.mono HUP.out, ?_⟩
  have h1 := HB5.out
  have h2 := HBS.out
  have h3 := HXB.out
  exact ⟨h1.os.trans (h2.os.trans h3.os), h1.tape.trans (h2.tape.trans h3.tape), h1.output.trans (h2.output.trans h3.output), Nat.le_trans h3.size (Nat.le_trans h2.size h1.size), fun j hj => by
   have hjb : j < b := by rw [← HWB.out]; exact hj
   have := HBB.out.1
   exact (h1.block j (by omega)).trans ((h2.block j (by omega) (by omega)).trans (h3.block j hj))⟩
 have hI : (i : Int) < (N : Int) := by omega
 obtain ⟨x, hx⟩ : ∃ x, U[i]? = some x := ⟨_, List.getElem?_eq_getElem (by rw [HUL.out, HN.out]; exact hlt)⟩
 have hxm := HUK.out x (List.mem_of_getElem? hx)
 have hru : kIt.row wr (fun j => j < B ∧ j ≠ b) A1 N U := Lay.row_keep HRU.out HBS.out.size fun j hj _ => HBS.out.block j hj.1 hj.2
 obtain ⟨gb, off, A2, n2, c2, rfl, hgbl, a0, a1, hnc2, hr2⟩ := it_at hru hx
 have hY0 : ∀ o, (wr.alloc o).cell? ⟨gb, off + i * 2, none⟩ = some (.string ⟨x.1.toArray⟩) := fun o => (((Ext.refl wr).alloc o).cells.1 gb _ hgbl).trans a0
 have hY1 : ∀ o, (wr.alloc o).cell? ⟨gb, off + i * 2 + 1, none⟩ = some (.slice A2 n2 c2) := fun o => (((Ext.refl wr).alloc o).cells.1 gb _ hgbl).trans a1
 obtain ⟨z, hz⟩ : ∃ z, wr.heap.size = z := ⟨_, rfl⟩
 obtain ⟨w3, hw3⟩ : ∃ w3, wr.alloc (.cells #[.string ⟨x.1.toArray⟩, .slice A2 n2 c2] 99) = w3 := ⟨_, rfl⟩
 have hx3 : Ext wr w3 := by rw [← hw3]; exact (Ext.refl wr).alloc _
 have hB3 : w3.heap[z]? = some (.cells #[.string ⟨x.1.toArray⟩, .slice A2 n2 c2] 99 (0, 0)) := by rw [← hw3, ← hz]; exact heap_alloc_new _ _
 have hzl := lt_of_block hB3
 have hBw : B ≤ wr.heap.size := by have := HBB.out.2; have := HBS.out.size; omega
 have htk := prs_take hx
 have htl := prs_take_le U (i + 1)
 have htl2 := prs_take_le U i
 obtain ⟨v, hlook, hpush⟩ := GMap.push HGM.out hBw (k := x.1) (by unfold maxLen; omega) (by omega) (by have := HUP.out; omega)
 obtain ⟨A5, m5, c5, X1, hrun, hmap1, hs1, hk1, D', X2, hrun2, hp⟩ := hpush w3.drew hx3.drew.grown _ A2 n2 c2 x.2 (Lay.row_ext hr2 hx3.drew) hxm.2 (by rw [htk, List.length_append, List.length_map] at htl; have := HUP.out; omega)
 have hzb : z ≠ b := by have := HBB.out.1; omega
 have HS := Hd (show w3.drew.cell? ⟨z, 0, none⟩ = some (.string ⟨x.1.toArray⟩) ∧ w3.drew.cell? ⟨z, 1, none⟩ = some (.slice A2 n2 c2) ∧ (Instr.lookup 105 (.map (some b)) (.string ⟨x.1.toArray⟩) false).run Tryz.prog w3.drew = .ok v w3.drew from
  ⟨cof (W := w3.drew) hB3 (i := 0) rfl, cof (W := w3.drew) hB3 (i := 1) rfl, hlook _ (HGM.out.own.kept hx3.drew.grown (by simp))⟩)
 have HS1 := Hd (show X1.cell? ⟨z, 0, none⟩ = some (.string ⟨x.1.toArray⟩) ∧ X1.cell? ⟨z, 1, none⟩ = some (.slice A2 n2 c2) ∧ (Instr.lookup 105 (.map (some b)) (.string ⟨x.1.toArray⟩) false).run Tryz.prog X1 = .ok v X1 from by
  have h9 : X1.heap[z]? = _ := (hk1 z hzl (.inr (by omega)) hzb).trans hB3
  exact ⟨cof h9 (i := 0) rfl, cof h9 (i := 1) rfl, hlook _ hmap1⟩)
 have RUN := Hd hrun
 have RUN2 := Hd hrun2
 have HREL := Hd (show MeR B b N U w2 (.int .i64 ((i : Int) + 1)) X2 from ⟨i + 1, D', by omega, by simp, by rw [htk]; exact hp.gm, HBS.out.push (by have := HBB.out.2; omega) hx3.drew hp⟩)
 clear hx hxm hru hr2 hx3 hB3 hzl hBw htk htl htl2 hlook hpush hrun hmap1 hs1 hk1 hrun2 hp hzb
 go_upto_region 5 with (fail)
 have hS0 : (fun X : World => X.cell? ⟨z, 0, none⟩ = some (.string ⟨x.1.toArray⟩) ∧ X.cell? ⟨z, 1, none⟩ = some (.slice A2 n2 c2) ∧ (Instr.lookup 105 (.map (some b)) (.string ⟨x.1.toArray⟩) false).run Tryz.prog X = .ok v X) w3.drew := HS.out
 refine wp_region_E (fun X : World => X.cell? ⟨z, 0, none⟩ = some (.string ⟨x.1.toArray⟩) ∧ X.cell? ⟨z, 1, none⟩ = some (.slice A2 n2 c2) ∧ (Instr.lookup 105 (.map (some b)) (.string ⟨x.1.toArray⟩) false).run Tryz.prog X = .ok v X) (fun _ => True) (fun i => i == 10) (by kernel_rfl) ?_
 refine wpE_tk 0 18 (.map (some b)) hS0 ?_ ?_
 ·intro w9 hT9; clear hT9; go_simp
 (try simp only [Act.put, ptA, ptB, ptC])
 refine wpE_tk 1 19 (.pointer (some ⟨z, 0, none⟩)) hS0 ?_ ?_
 ·intro w9 hT9; clear hT9; go_simp
 (try simp only [Act.put, ptA, ptB, ptC])
 refine wpE_tk 2 20 (.string ⟨x.1.toArray⟩) hS0 ?_ ?_
 ·intro w9 hT9; obtain ⟨s0, s1, s2⟩ := hT9; go_simp
 (try simp only [Act.put, ptA, ptB, ptC])
 refine wpE_tk 3 21 (.map (some b)) hS0 ?_ ?_
 ·intro w9 hT9; clear hT9; go_simp
 (try simp only [Act.put, ptA, ptB, ptC])
 refine wpE_tk 4 22 (.pointer (some ⟨z, 0, none⟩)) hS0 ?_ ?_
 ·intro w9 hT9; clear hT9; go_simp
 (try simp only [Act.put, ptA, ptB, ptC])
 refine wpE_tk 5 23 (.string ⟨x.1.toArray⟩) hS0 ?_ ?_
 ·intro w9 hT9; obtain ⟨s0, s1, s2⟩ := hT9; go_simp
 (try simp only [Act.put, ptA, ptB, ptC])
 refine wpE_tk 6 24 (v) hS0 ?_ ?_
 ·intro w9 hT9; obtain ⟨s0, s1, s2⟩ := hT9; go_simp
 (try simp only [Act.put, ptA, ptB, ptC])
 refine wpE_tk 7 25 (.pointer (some ⟨z, 1, none⟩)) hS0 ?_ ?_
 ·intro w9 hT9; clear hT9; go_simp
 (try simp only [Act.put, ptA, ptB, ptC])
 refine wpE_tk 8 26 (.slice A2 n2 c2) hS0 ?_ ?_
 ·intro w9 hT9; obtain ⟨s0, s1, s2⟩ := hT9; go_simp
 (try simp only [Act.put, ptA, ptB, ptC])
 refine wal (rs := [9]) (by kernel_rfl) (by simp) ?_
 refine AllE.cons rfl (fun K hK => ?_) AllE.nil
 simp only [List.getElem_toArray, List.getElem_cons_succ, List.getElem_cons_zero]
 refine step_append_tm (s := .tmp 24) (x := .tmp 26) RUN.out rfl rfl rfl rfl rfl ?_
 refine hK.out _ _ ⟨fun _ => HS1.out, trivial⟩ (fun _ => ?_)
 clear hK K
 have hS0 := HS1.out
 (try simp only [Act.put, ptA, ptB, ptC])
 refine wal (rs := [10]) (by kernel_rfl) (by simp) ?_
 refine AllE.cons rfl (fun K hK => ?_) AllE.nil
 simp only [List.getElem_toArray, List.getElem_cons_succ, List.getElem_cons_zero]
 refine step_mapU (m := .tmp 18) (k := .tmp 20) (x := .tmp 27) RUN2.out rfl rfl rfl rfl rfl ?_
 refine hK.out _ _ ⟨fun h => absurd h (by simp), trivial⟩ (fun _ => ?_)
 clear hK K
 (try simp only [Act.put])
 refine wpE_done (by kernel_rfl) ?_ _
 go_wp2_with fail
 go_roundw
 case rel => exact HREL.out
 case measure => simp only [toM]; omega
end
section
open Go Go.RowKit
theorem idxI_some {β : Type} (p : β → Bool) : ∀ xs : List β, 0 ≤ idxI p xs → ∃ (i : Nat) (x : β), idxI p xs = (i : Int) ∧ xs[i]? = some x ∧ p x = true := by
 intro xs
 induction xs with
 | nil => intro h; simp [idxI] at h
 | cons a r ih =>
  intro h
  rw [idxI] at h ⊢
  by_cases ha : p a = true
  ·rw [if_pos ha]; exact ⟨0, a, rfl, rfl, ha⟩
  ·rw [if_neg ha] at h ⊢
   cases hq : idxI p r with
   | ofNat k =>
    obtain ⟨i, x, h1, h2, h3⟩ := ih (by rw [hq]; exact Int.natCast_nonneg k)
    rw [hq] at h1
    have hk : k = i := by have h1' : (k : Int) = (i : Int) := h1; omega
    subst hk
    exact ⟨k + 1, x, by simp, by simpa using h2, h3⟩
   | negSucc k => rw [hq] at h; simp at h
end
end Go.Proofs.YtdbnddmncbjobaaGreatDoor