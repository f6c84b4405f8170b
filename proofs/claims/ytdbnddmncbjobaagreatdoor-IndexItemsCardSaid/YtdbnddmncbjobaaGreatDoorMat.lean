/- book.wrong, book.fits: walked. -/
import Derived.Test.YtdbnddmncbjobaaGreatDoorMas
namespace Go.Proofs.YtdbnddmncbjobaaGreatDoor
section
open Go Go.RowKit
theorem OkT.wn {t : Tx} (h : OkT t) : 1 ≤ wordsN (t.paras ++ t.notes) ∧ wordsN (t.paras ++ t.notes) ≤ 1000000 := by
 have hle : ∀ (B : Nat) (l : List (List Wd)), (∀ p ∈ l, p.length ≤ B) → wordsN l ≤ B * l.length := by
  intro B l
  induction l with
  | nil => intro _; simp [wordsN]
  | cons p l ih =>
   intro hl
   have h1 := hl p (by simp)
   have h2 := ih fun q hq => hl q (by simp [hq])
   simp only [wordsN, List.map_cons, List.sum_cons, List.length_cons, Nat.mul_succ] at h2 ⊢
   omega
 have hap : wordsN (t.paras ++ t.notes) = wordsN t.paras + wordsN t.notes := by simp [wordsN]
 have h1 := hle 40 t.paras fun p hp => (h.par.len p hp).2
 have h2 := hle 12 t.notes fun p hp => (h.len p hp).2
 have h3 := h.np
 have h4 := h.nn
 refine ⟨?_, by omega⟩
 cases hp : t.paras with
 | nil => rw [hp] at h3; simp at h3
 | cons p r =>
  have := (h.par.len p (by rw [hp]; simp)).1
  simp only [wordsN, List.cons_append, List.map_cons, List.sum_cons]
  omega
set_option maxHeartbeats 4000000 in
set_option maxRecDepth 100000 in
theorem wrong_ok (P : Nat → Prop) (w : World) (m h : Int) (B : Option Addr) (N k : Nat) (t : Tx) (A A' : Option Addr) (n n' c c' : Nat) (h1 : kWs.row w P A n t.paras) (h2 : kWs.row w P A' n' t.notes) (hT : OkT t) (hm0 : 500 ≤ m) (hm : m ≤ 2000) (hh0 : 4 ≤ h) (hh : h ≤ 100) (hL : EnvW w) :
  Calls Tryz.prog 83 #[.agg #[.int .i64 m, .int .i64 h, .slice B N k], .agg #[.slice A n c, .slice A' n' c']] w (fun e w' => e = .returned (.int .i64 0) ∧ Ext w w') := by
 have HPT := Hd (fun X (hX : Ext w X) => ptext_any P X t m h A A' n n' c c' (Lay.row_ext h1 hX) (Lay.row_ext h2 hX) (txP_of hT hm0 hm hh0 hh) hm0 hm (hL.ext hX))
 have HCO := Hd (fun X (hX : Ext w X) => count_any P X A A' n n' c c' t (Lay.row_ext h1 hX) (Lay.row_ext h2 hX) (by have := hT.np; omega) (by have := hT.nn; omega) hT.wn.2)
 have hw1 := hT.wn.1
 obtain ⟨q, hq⟩ : ∃ q, wordsN (t.paras ++ t.notes) = q := ⟨_, rfl⟩
 rw [hq] at hw1 HCO
 clear h1 h2 hT hL hq
 have hq0 : ((q : Int) == 0) = false := by simp; omega
 go_enter Tryz.func83, Tryz.ntmps83
 go_upto_region 1 with (fail)
 obtain ⟨W0, hW0⟩ : ∃ W0, (w.alloc (.cells #[.int .i64 m, .int .i64 h, .slice B N k] 27)).alloc (.cells #[.slice A n c, .slice A' n' c'] 53) = W0 := ⟨_, rfl⟩
 obtain ⟨z, hz⟩ : ∃ z, w.heap.size = z := ⟨_, rfl⟩
 have hx0 : Ext w W0 := by rw [← hW0]; exact ((Ext.refl w).alloc _).alloc _
 have hB1 : W0.heap[z]? = some (.cells #[.int .i64 m, .int .i64 h, .slice B N k] 27 (0, 0)) := by rw [← hW0, ← hz, haO _ _ _ (by simp)]; exact haA _ _ _ _ rfl
 have hB2 : W0.heap[z + 1]? = some (.cells #[.slice A n c, .slice A' n' c'] 53 (0, 0)) := by rw [← hW0, ← hz]; exact haA _ _ _ _ (by simp)
 rw [hW0, hz]
 have a0 := cof hB1 (i := 0) (u := .int .i64 m) rfl
 have a1 := cof hB1 (i := 1) (u := .int .i64 h) rfl
 have b0 := cof hB2 (i := 0) (u := .slice A n c) rfl
 have b1 := cof hB2 (i := 1) (u := .slice A' n' c') rfl
 have HX0 := Hd hx0
 have HB2 := Hd hB2
 clear hW0 hz hx0 hB1 hB2
 go_upto_region 2 with (first | (go_at_call 127; refine (HPT.out _ HX0.out).mono ?_; rintro e w1 ⟨A1, c1, rfl, _, hx1⟩))
 have hB2 := (hx1.block _ (lt_of_block HB2.out)).trans HB2.out
 have b0 := cof hB2 (i := 0) (u := .slice A n c) rfl
 have b1 := cof hB2 (i := 1) (u := .slice A' n' c') rfl
 have HX1 := Hd (HX0.out.trans hx1)
 clear hx1 hB2 a0 a1 HPT
 go_wp2_with (first | (go_at_call 31; refine (HCO.out _ HX1.out).mono ?_; rintro e w2 ⟨rfl, hx2⟩))
 go_ret
 exact ⟨rfl, HX1.out.trans hx2⟩
def FitPost (w : World) (m h : Int) (A : Option Addr) (N c np : Nat) (e : Ending) (w' : World) : Prop :=
 Ext w w' ∧ ((np ≤ 16384 ∧ e = .returned (.tuple #[.agg #[.int .i64 m, .int .i64 h, .slice A N c], .int .i64 0])) ∨ (16384 < np ∧ e = .returned (.tuple #[.agg #[.int .i64 0, .int .i64 0, .slice none 0 0], .int .i64 2])))
theorem st3 {W : World} {z : Nat} {a0 a1 a2 : Value} (h : W.heap[z]? = some (.cells #[a0, a1, a2] 27 (0, 0))) (v0 v1 v2 : Value) :
  (((W.setCell ⟨z, 0, none⟩ v0).setCell ⟨z, 1, none⟩ v1).setCell ⟨z, 2, none⟩ v2).heap[z]? = some (.cells #[v0, v1, v2] 27 (0, 0)) :=
 heap_setCell_same _ z 2 _ 27 _ (heap_setCell_same _ z 1 _ 27 _ (heap_setCell_same _ z 0 _ 27 _ h))
theorem ext3 {a W : World} (h : Ext a W) {z : Nat} (hz : a.heap.size ≤ z) (v0 v1 v2 : Value) : Ext a (((W.setCell ⟨z, 0, none⟩ v0).setCell ⟨z, 1, none⟩ v1).setCell ⟨z, 2, none⟩ v2) :=
 ((h.setCell (p := ⟨z, 0, none⟩) hz v0).setCell (p := ⟨z, 1, none⟩) hz v1).setCell (p := ⟨z, 2, none⟩) hz v2
set_option maxHeartbeats 4000000 in
set_option maxRecDepth 100000 in
theorem bfits_any (P : Nat → Prop) (w : World) (b : Bk) (A : Option Addr) (N c : Nat) (hb : BkI b) (hr : kSe.row w P A N b.secs) (hL : EnvW w) :
  Calls Tryz.prog 85 #[.agg #[.int .i64 b.ms, .int .i64 b.ht, .slice A N c]] w (FitPost w b.ms b.ht A N c (pagesB b).length) := by
 have HPG := Hd (fun X (hX : Ext w X) => pages_any P X b A N c hb (Lay.row_ext hr hX) (hL.ext hX))
 clear hb hr hL
 go_enter Tryz.func85, Tryz.ntmps85
 go_upto_region 1 with (fail)
 obtain ⟨W0, hW0⟩ : ∃ W0, (w.alloc (.cells #[.int .i64 b.ms, .int .i64 b.ht, .slice A N c] 27)).alloc (.cells #[.int .i64 0, .int .i64 0, .slice none 0 0] 27) = W0 := ⟨_, rfl⟩
 obtain ⟨z, hz⟩ : ∃ z, w.heap.size = z := ⟨_, rfl⟩
 have hx0 : Ext w W0 := by rw [← hW0]; exact ((Ext.refl w).alloc _).alloc _
 have hB1 : W0.heap[z]? = some (.cells #[.int .i64 b.ms, .int .i64 b.ht, .slice A N c] 27 (0, 0)) := by rw [← hW0, ← hz, haO _ _ _ (by simp)]; exact haA _ _ _ _ rfl
 have hB2 : W0.heap[z + 1]? = some (.cells #[.int .i64 0, .int .i64 0, .slice none 0 0] 27 (0, 0)) := by rw [← hW0, ← hz]; exact haA _ _ _ _ (by simp)
 rw [hW0, hz]
 have a0 := cof hB1 (i := 0) (u := .int .i64 b.ms) rfl
 have a1 := cof hB1 (i := 1) (u := .int .i64 b.ht) rfl
 have a2 := cof hB1 (i := 2) (u := .slice A N c) rfl
 have HX0 := Hd hx0
 have HB := Hd (And.intro hB1 hB2)
 have HZ := Hd hz
 clear hW0 hz hx0 hB1 hB2
 go_upto_if 7 with (first | (go_at_call 55; refine (HPG.out _ HX0.out).mono ?_; rintro e w1 ⟨Ap, np, cp, rfl, hpc, hp6, hrow, hx1⟩))
 have HE := Hd (Lay.row_len hrow)
 have hB2 := (hx1.block _ (lt_of_block HB.out.2)).trans HB.out.2
 have hB1 := (hx1.block _ (lt_of_block HB.out.1)).trans HB.out.1
 have HX1 := Hd (HX0.out.trans hx1)
 have a0 := cof hB1 (i := 0) (u := .int .i64 b.ms) rfl
 have a1 := cof hB1 (i := 1) (u := .int .i64 b.ht) rfl
 have a2 := cof hB1 (i := 2) (u := .slice A N c) rfl
 have r0 := cof hB2 (i := 0) (u := .int .i64 0) rfl
 have r1 := cof hB2 (i := 1) (u := .int .i64 0) rfl
 have r2 := cof hB2 (i := 2) (u := .slice none 0 0) rfl
 have f0 := fof hB2 0
 have f1 := fof hB2 1
 have f2 := fof hB2 2
 have HB2 := Hd hB2
 clear hrow hx1 hB1 hB2 hpc HX0 HB HPG
 by_cases hc : 16384 < np
 ·have hcI : (16384 : Int) < (np : Int) := by omega
  go_wp2_with fail
  have hs := st3 HB2.out (.int .i64 0) (.int .i64 0) (.slice none 0 0)
  have q0 := cof hs (i := 0) rfl
  have q1 := cof hs (i := 1) rfl
  have q2 := cof hs (i := 2) rfl
  refine bodyPost_ret (v := .tuple #[.agg #[.int .i64 0, .int .i64 0, .slice none 0 0], .int .i64 2]) (by simp [results, Tryz.results85, go_sem, q0, q1, q2]) rfl ?_
  exact ⟨ext3 HX1.out (by have := HZ.out; omega) _ _ _, .inr ⟨by have := HE.out; omega, rfl⟩⟩
 ·have hcI : ¬ (16384 : Int) < (np : Int) := by omega
  go_wp2_with fail
  have hs := st3 HB2.out (.int .i64 b.ms) (.int .i64 b.ht) (.slice A N c)
  have q0 := cof hs (i := 0) rfl
  have q1 := cof hs (i := 1) rfl
  have q2 := cof hs (i := 2) rfl
  refine bodyPost_ret (v := .tuple #[.agg #[.int .i64 b.ms, .int .i64 b.ht, .slice A N c], .int .i64 0]) (by simp [results, Tryz.results85, go_sem, q0, q1, q2]) rfl ?_
  exact ⟨ext3 HX1.out (by have := HZ.out; omega) _ _ _, .inl ⟨by have := HE.out; omega, rfl⟩⟩
end
section
open Go Go.RowKit
def frzIn (b : Bk) (e : Int) : Bool := b.secs.any fun x => x.ent == e && x.fz
def ofP (b : Bk) (br e v wd : Int) : Option (Int × Int × Nat) := if br < 0 ∨ 256 ≤ br ∨ frzIn b e = false then none else whereP b e v wd
structure CiR (z : Nat) (W : World) : Prop where
 c0 : W.cell? ⟨z, 0, none⟩ = some (.int .i64 0)
 c1 : W.cell? ⟨z, 1, none⟩ = some (.int .i64 0)
 c2 : W.cell? ⟨z, 2, none⟩ = some (.int .i64 0)
 c3 : W.cell? ⟨z, 3, none⟩ = some (.int .i64 0)
 f0 : W.frozen? ⟨z, 0, none⟩ = false
 f1 : W.frozen? ⟨z, 1, none⟩ = false
 f2 : W.frozen? ⟨z, 2, none⟩ = false
 f3 : W.frozen? ⟨z, 3, none⟩ = false
 lt : z < W.heap.size
 ne : ¬ z = W.heap.size
theorem CiR.of {z : Nat} {W : World} (h : W.heap[z]? = some (.cells #[.int .i64 0, .int .i64 0, .int .i64 0, .int .i64 0] 69 (0, 0))) : CiR z W :=
 ⟨cof h (i := 0) rfl, cof h (i := 1) rfl, cof h (i := 2) rfl, cof h (i := 3) rfl, fof h 0, fof h 1, fof h 2, fof h 3, lt_of_block h, by have := lt_of_block h; omega⟩
end
section
open Go Go.RowKit
def citP (b : Bk) (n s line : Int) : Option (Pg × Ln) := (pageP b n s).bind fun p => if line < 1 then none else ((p.body ++ p.nts)[(line - 1).toNat]?).map fun x => (p, x)
structure FiR (z2 z3 : Nat) (W : World) : Prop where
 h2 : W.heap[z2]? = some (.cells #[.int .i64 0, .int .i64 0, .int .i64 0, .int .i64 0, .slice none 0 0, .slice none 0 0] 84 (0, 0))
 h3 : W.heap[z3]? = some (.cells #[.int .i64 0, .int .i64 0, .slice none 0 0, .slice none 0 0] 86 (0, 0))
theorem FiR.ext {z2 z3 : Nat} {W W' : World} (h : FiR z2 z3 W) (hx : Ext W W') : FiR z2 z3 W' := ⟨(hx.block _ (lt_of_block h.h2)).trans h.h2, (hx.block _ (lt_of_block h.h3)).trans h.h3⟩
end
section
open Go Go.RowKit
structure SecOk (fr k : Nat) (x : Se) : Prop where
 ent : 2 * (k : Int) ≤ x.ent ∧ x.ent ≤ 2 * (k : Int) + 1
 fz : x.fz = decide (k < fr)
 vs : ∃ m : Nat, m ≤ 2 ∧ (m ≠ 0 → k < fr) ∧ x.vers = (10 - (k : Int)) :: (List.range m).map (fun (j : Nat) => 30 + 7 * (k : Int) - 3 * (j : Int)) ∧ x.texts.length = m + 1
 tx : ∀ t ∈ x.texts, OkT t
structure OkG (b : Bk) : Prop where
 m0 : 500 ≤ b.ms
 m1 : b.ms ≤ 2000
 h0 : 4 ≤ b.ht
 h1 : b.ht ≤ 100
 n : b.secs.length ≤ 4
 s : ∃ fr : Nat, ∀ (k : Nat) (x : Se), b.secs[k]? = some x → SecOk fr k x
theorem OkG.okB {b : Bk} (h : OkG b) : OkB b 4 3 := by
 obtain ⟨fr, hs⟩ := h.s
 have hm : ∀ x ∈ b.secs, ∃ k, SecOk fr k x := fun x hx => by
  obtain ⟨k, hk⟩ := List.getElem?_of_mem hx
  exact ⟨k, hs k x hk⟩
 refine ⟨h.m0, h.m1, h.h0, h.h1, h.n, fun x hx => ?_, fun x hx => ?_, ?_⟩
 ·obtain ⟨k, hk⟩ := hm x hx
  obtain ⟨m, h1, _, h2, h3⟩ := hk.vs
  exact ⟨by rw [h2, h3]; simp, by rw [h2]; simp, by omega⟩
 ·obtain ⟨k, hk⟩ := hm x hx; exact hk.tx
 ·rw [List.nodup_iff_pairwise_ne, List.pairwise_iff_getElem]
  intro i j hi hj hij
  rw [List.length_map] at hi hj
  have h1 := (hs i _ (List.getElem?_eq_getElem hi)).ent
  have h2 := (hs j _ (List.getElem?_eq_getElem hj)).ent
  intro e9
  rw [List.getElem_map, List.getElem_map] at e9
  omega
theorem own_new {β : Type} {k : Lay β} {X : World} {base : Nat} {P : Nat → Prop} {x : β} {cs : Array Value} {e : TypeId} (hb : base ≤ X.heap.size) (hr : k.rep X (fun j => P j ∧ j ≠ X.heap.size) x cs.toList) :
  k.own e (X.alloc (.cells cs e)) base P (.slice (some ⟨X.heap.size, 0, none⟩) 1 1) [x] := by
 obtain ⟨d0, hd0⟩ : ∃ d0 : Cs k.sz, ccf d0 = cs.toList := ⟨⟨cs.toList, k.len hr, k.one hr⟩, rfl⟩
 have hsz : cs.size = k.sz := by have := k.len hr; simpa using this
 refine ⟨[d0], ?_, rfl, fun i d y hd hy => ?_⟩
 ·unfold OL
  have hg : gcells ccf [d0] = cs.toList := by simp [gcells, hd0]
  rw [hg]
  refine ⟨by simp [hsz], .inr ⟨X.heap.size, 1, cs, rfl, hb, heap_alloc_new X _, by simp, by simp [maxLen], by simp [hsz], ?_⟩⟩
  rw [List.length_singleton, Nat.one_mul, ← hsz]
  exact List.take_of_length_le (by simp)
 ·cases i with
  | zero =>
   injection hd with hd
   injection hy with hy
   subst hd hy
   have h9 : k.rep X (fun j => P j ∧ j ≠ X.heap.size) x (ccf d0) := by rw [hd0]; exact hr
   exact k.ext (k.mono h9 fun j hj _ => ⟨hj.1, fun e => hj.2 (by have : some X.heap.size = some j := e; injection this with this; exact this.symm)⟩) ((Ext.refl X).alloc _)
  | succ i => cases hd
structure BgS (w : World) (ms ht : Int) (fr : Nat) (secs : List Se) (vS : Value) (W : World) : Prop where
 x : Ext w W
 r : W.heap[w.heap.size]? = some (.cells #[.int .i64 0, .int .i64 0, .slice none 0 0] 27 (0, 0))
 b : W.heap[w.heap.size + 1]? = some (.cells #[.int .i64 ms, .int .i64 ht, vS] 27 (0, 0))
 own : kSe.own 46 W (w.heap.size + 2) (fun j => w.heap.size + 2 ≤ j) vS secs
 ok : ∀ (k : Nat) (x : Se), secs[k]? = some x → SecOk fr k x
theorem BgS.size {w : World} {ms ht : Int} {fr : Nat} {secs : List Se} {vS : Value} {W : World} (h : BgS w ms ht fr secs vS W) : w.heap.size + 2 ≤ W.heap.size := lt_of_block h.b
theorem BgS.ext {w : World} {ms ht : Int} {fr : Nat} {secs : List Se} {vS : Value} {W W' : World} (h : BgS w ms ht fr secs vS W) (hx : Ext W W') : BgS w ms ht fr secs vS W' :=
 ⟨h.x.trans hx, (hx.block _ (lt_of_block h.r)).trans h.r, (hx.block _ (lt_of_block h.b)).trans h.b, Lay.own_ext h.own hx, h.ok⟩
def BgR (w : World) (ms ht : Int) (fr n : Nat) (s6 : Value) (W : World) : Prop := ∃ (secs : List Se) (A : Option Addr) (c : Nat), secs.length ≤ n ∧ s6 = .int .i64 secs.length ∧ BgS w ms ht fr secs (.slice A secs.length c) W
structure Low (w : World) (ms ht : Int) (fr : Nat) (secs : List Se) (vS : Value) (Bs : Nat) (W : World) : Prop where
 x : Ext w W
 r : W.heap[w.heap.size]? = some (.cells #[.int .i64 0, .int .i64 0, .slice none 0 0] 27 (0, 0))
 b : W.heap[w.heap.size + 1]? = some (.cells #[.int .i64 ms, .int .i64 ht, vS] 27 (0, 0))
 own : kSe.own 46 W (w.heap.size + 2) (fun j => w.heap.size + 2 ≤ j ∧ j < Bs) vS secs
 ok : ∀ (k : Nat) (x : Se), secs[k]? = some x → SecOk fr k x
 hb : w.heap.size + 2 ≤ Bs
 hS : ∀ j, vS.ownBlock = some j → j < Bs
theorem Low.keep {w : World} {ms ht : Int} {fr : Nat} {secs : List Se} {vS : Value} {Bs : Nat} {W W' : World} (h : Low w ms ht fr secs vS Bs W) (hk : Below Bs W W') : Low w ms ht fr secs vS Bs W' :=
 ⟨Below.trans h.x (hk.mono (by have := h.hb; omega)), (hk.block _ (by have := h.hb; omega)).trans h.r, (hk.block _ (by have := h.hb; omega)).trans h.b, Lay.own_keep h.own hk.size (fun j hj _ => by
  rcases hj with hj | hj
  ·exact hk.block j hj.2
  ·exact hk.block j (h.hS j hj)), h.ok, h.hb, h.hS⟩
theorem BgS.low {w : World} {ms ht : Int} {fr : Nat} {secs : List Se} {vS : Value} {W : World} (h : BgS w ms ht fr secs vS W) : Low w ms ht fr secs vS W.heap.size W :=
 ⟨h.x, h.r, h.b, Lay.own_mono h.own fun _ hj hl => ⟨hj, hl⟩, h.ok, h.size, fun j hj => (Lay.own_lt h.own j hj).2⟩
structure InS (w : World) (ms ht : Int) (fr : Nat) (secs : List Se) (vS : Value) (Bs zs : Nat) (ent : Int) (fz : Bool) (vV vT : Value) (vers : List Int) (texts : List Tx) (W : World) : Prop where
 low : Low w ms ht fr secs vS Bs W
 s : W.heap[zs]? = some (.cells #[.int .i64 ent, .bool fz, vV, vT] 46 (0, 0))
 ov : kInt.own 3 W Bs (fun _ => False) vV vers
 ot : kTx.own 53 W Bs (fun j => Bs ≤ j ∧ j ≠ zs ∧ vV.ownBlock ≠ some j) vT texts
 d1 : vV.ownBlock ≠ some zs
 d2 : vT.ownBlock ≠ some zs
 d3 : ∀ j, vV.ownBlock = some j → vT.ownBlock ≠ some j
 hz : Bs ≤ zs
theorem InS.lt {w : World} {ms ht : Int} {fr : Nat} {secs : List Se} {vS : Value} {Bs zs : Nat} {ent : Int} {fz : Bool} {vV vT : Value} {vers : List Int} {texts : List Tx} {W : World} (h : InS w ms ht fr secs vS Bs zs ent fz vV vT vers texts W) : zs < W.heap.size := lt_of_block h.s
theorem InS.ext {w : World} {ms ht : Int} {fr : Nat} {secs : List Se} {vS : Value} {Bs zs : Nat} {ent : Int} {fz : Bool} {vV vT : Value} {vers : List Int} {texts : List Tx} {W W' : World} (h : InS w ms ht fr secs vS Bs zs ent fz vV vT vers texts W) (hx : Ext W W') : InS w ms ht fr secs vS Bs zs ent fz vV vT vers texts W' :=
 ⟨h.low.keep (Below.mono hx (by have := h.lt; have := h.hz; omega)), (hx.block _ h.lt).trans h.s, Lay.own_ext h.ov hx, Lay.own_ext h.ot hx, h.d1, h.d2, h.d3, h.hz⟩
theorem InS.appV {w : World} {ms ht : Int} {fr : Nat} {secs : List Se} {vS : Value} {Bs zs : Nat} {ent : Int} {fz : Bool} {vV vT : Value} {vers : List Int} {texts : List Tx} {W : World} (h : InS w ms ht fr secs vS Bs zs ent fz vV vT vers texts W) (x : Int) (hm : vers.length ≤ 1000) :
  ∃ A' c' w', (Builtin.append_ #[22, 22] 22 #[vV, .slice (some ⟨W.heap.size, 0, none⟩) 1 1]).run Tryz.prog (W.alloc (.cells #[.int .i64 x] 3)) = .ok (.slice A' (vers.length + 1) c') w' ∧
   w'.heap[zs]? = some (.cells #[.int .i64 ent, .bool fz, vV, vT] 46 (0, 0)) ∧ InS w ms ht fr secs vS Bs zs ent fz (.slice A' (vers.length + 1) c') vT (vers ++ [x]) texts (w'.setCell ⟨zs, 2, none⟩ (.slice A' (vers.length + 1) c')) := by
 have hlz := h.lt
 have hzb := h.hz
 obtain ⟨A', c', w', r1, r2, r3, r4, r5, r6⟩ := own_app1 (k := kInt) (Pr := Tryz.prog) (t := 22) Tryz.underlying22 info3 rfl (by decide) (by omega) h.ov (by omega) (cs := #[.int .i64 x]) (T := 3) (x := x) rfl 1 (by omega)
 have hzs : w'.heap[zs]? = some (.cells #[.int .i64 ent, .bool fz, vV, vT] 46 (0, 0)) := (r4 zs hlz h.d1).trans h.s
 have g1 : (Value.slice A' (vers.length + 1) c').ownBlock ≠ some zs := fun e => by
  rcases r6 zs e with e | e
  ·exact h.d1 e
  ·omega
 refine ⟨A', c', w', r1, hzs, ⟨(h.low.keep (r3 Bs (Nat.le_refl _))).keep (Below.setCell (Below.refl _ _) hzb _), ?_, Lay.own_keep r2 (by simp) ?_, ?_, g1, h.d2, ?_, hzb⟩⟩
 ·exact heap_setCell_same w' zs 2 _ 46 _ hzs
 ·intro j hj _
  rcases hj with hj | hj
  ·exact hj.elim
  ·exact heap_setCell_other w' ⟨zs, 2, none⟩ j _ (fun e => g1 (hj.trans (congrArg some e)))
 ·have h1 := Lay.own_mono (P' := fun j => (Bs ≤ j ∧ j ≠ zs ∧ vV.ownBlock ≠ some j) ∧ (Value.slice A' (vers.length + 1) c').ownBlock ≠ some j) h.ot fun j hj hl => ⟨hj, fun e => by
   rcases r6 j e with e | e
   ·exact hj.2.2 e
   ·omega⟩
  have h2 := Lay.own_keep h1 r5 fun j hj hl => r4 j hl (by
   rcases hj with hj | hj
   ·exact hj.1.2.2
   ·exact fun e => h.d3 j e hj)
  have h3 := Lay.own_keep (W' := w'.setCell ⟨zs, 2, none⟩ (.slice A' (vers.length + 1) c')) h2 (by simp) fun j hj _ => heap_setCell_other w' ⟨zs, 2, none⟩ j _ (by
   rcases hj with hj | hj
   ·exact hj.1.2.1
   ·exact fun e => h.d2 (hj.trans (congrArg some e)))
  exact Lay.own_mono h3 fun j hj _ => ⟨hj.1.1, hj.1.2.1, hj.2⟩
 ·intro j hj e
  rcases r6 j hj with h9 | h9
  ·exact h.d3 j h9 e
  ·have := (Lay.own_lt h.ot j e).2; omega
theorem InS.appT {w : World} {ms ht : Int} {fr : Nat} {secs : List Se} {vS : Value} {Bs zs : Nat} {ent : Int} {fz : Bool} {vV vT : Value} {vers : List Int} {texts : List Tx} {W W1 : World} (h : InS w ms ht fr secs vS Bs zs ent fz vV vT vers texts W) (hx : Ext W W1) {t : Tx} {A1 A2 : Option Addr} {n1 c1 n2 c2 : Nat} (hg : GT W.heap.size t (.agg #[.slice A1 n1 c1, .slice A2 n2 c2]) W1) (hm : texts.length ≤ 1000) :
  ∃ A' c' w', (Builtin.append_ #[44, 44] 44 #[vT, .slice (some ⟨W1.heap.size, 0, none⟩) 1 1]).run Tryz.prog (W1.alloc (.cells #[.slice A1 n1 c1, .slice A2 n2 c2] 53)) = .ok (.slice A' (texts.length + 1) c') w' ∧
   w'.heap[zs]? = some (.cells #[.int .i64 ent, .bool fz, vV, vT] 46 (0, 0)) ∧ InS w ms ht fr secs vS Bs zs ent fz vV (.slice A' (texts.length + 1) c') vers (texts ++ [t]) (w'.setCell ⟨zs, 3, none⟩ (.slice A' (texts.length + 1) c')) := by
 have hlz := h.lt
 have hzb := h.hz
 have h' := h.ext hx
 have hvl := Lay.own_lt h.ov
 have htl := Lay.own_lt h.ot
 obtain ⟨B1, m1, d1, B2, m2, d2, e9, k1, k2, k3, k4⟩ := hg
 have e10 := (Value.agg.inj e9)
 simp only [Array.mk.injEq, List.cons.injEq, Value.slice.injEq, and_true] at e10
 obtain ⟨⟨rfl, rfl, rfl⟩, rfl, rfl, rfl⟩ := e10
 have hP : ∀ j, W.heap.size ≤ j → j < W1.heap.size → (Bs ≤ j ∧ j ≠ zs ∧ vV.ownBlock ≠ some j) ∧ vT.ownBlock ≠ some j := fun j hj _ => ⟨⟨by omega, by omega, fun e => by have := (hvl j e).2; omega⟩, fun e => by have := (htl j e).2; omega⟩
 obtain ⟨A', c', w', r1, r2, r3, r4, r5, r6⟩ := own_app1 (k := kTx) (Pr := Tryz.prog) (t := 44) Tryz.underlying44 info53 rfl (by decide) (by omega) h'.ot (by have := hx.lt; omega) (cs := #[.slice A1 n1 c1, .slice A2 n2 c2]) (T := 53) (x := t)
  (kTx_rep.2 ⟨_, _, _, _, _, _, rfl, k1, k2, Lay.row_mono k3 hP, Lay.row_mono k4 hP⟩) 1 (by omega)
 have hzs : w'.heap[zs]? = some (.cells #[.int .i64 ent, .bool fz, vV, vT] 46 (0, 0)) := (r4 zs h'.lt h.d2).trans h'.s
 have g1 : (Value.slice A' (texts.length + 1) c').ownBlock ≠ some zs := fun e => by
  rcases r6 zs e with e | e
  ·exact h.d2 e
  ·have := h'.lt; omega
 refine ⟨A', c', w', r1, hzs, ⟨(h'.low.keep (r3 Bs (Nat.le_refl _))).keep (Below.setCell (Below.refl _ _) hzb _), ?_, ?_, Lay.own_keep r2 (by simp) ?_, h.d1, g1, ?_, hzb⟩⟩
 ·exact heap_setCell_same w' zs 3 _ 46 _ hzs
 ·have h2 := Lay.own_keep h'.ov r5 fun j hj hl => r4 j hl (by
   rcases hj with hj | hj
   ·exact hj.elim
   ·exact h.d3 j hj)
  refine Lay.own_keep h2 (by simp) fun j hj _ => heap_setCell_other w' ⟨zs, 3, none⟩ j _ ?_
  rcases hj with hj | hj
  ·exact hj.elim
  ·exact fun e => h.d1 (hj.trans (congrArg some e))
 ·intro j hj _
  refine heap_setCell_other w' ⟨zs, 3, none⟩ j _ ?_
  rcases hj with hj | hj
  ·exact hj.2.1
  ·exact fun e => g1 (hj.trans (congrArg some e))
 ·intro j hj e
  rcases r6 j e with h9 | h9
  ·exact h.d3 j hj h9
  ·have := (hvl j hj).2; have := hx.lt; omega
theorem InS.firstT {w : World} {ms ht : Int} {fr : Nat} {secs : List Se} {vS : Value} {Bs zs : Nat} {ent : Int} {fz : Bool} {vV : Value} {vers : List Int} {W W1 : World} (h : InS w ms ht fr secs vS Bs zs ent fz vV (.slice none 0 0) vers [] W) (hx : Ext W W1) {t : Tx} {A1 A2 : Option Addr} {n1 c1 n2 c2 : Nat} (hg : GT W.heap.size t (.agg #[.slice A1 n1 c1, .slice A2 n2 c2]) W1) :
  InS w ms ht fr secs vS Bs zs ent fz vV (.slice (some ⟨W1.heap.size, 0, none⟩) 1 1) vers [t] ((W1.setCell ⟨zs, 3, none⟩ (.slice (some ⟨W1.heap.size, 0, none⟩) 1 1)).alloc (.cells #[.slice A1 n1 c1, .slice A2 n2 c2] 53)) := by
 have hlz := h.lt
 have hzb := h.hz
 have h' := h.ext hx
 have hxl := hx.lt
 have hvl := Lay.own_lt h.ov
 obtain ⟨B1, m1, d1, B2, m2, d2, e9, k1, k2, k3, k4⟩ := hg
 have e10 := (Value.agg.inj e9)
 simp only [Array.mk.injEq, List.cons.injEq, Value.slice.injEq, and_true] at e10
 obtain ⟨⟨rfl, rfl, rfl⟩, rfl, rfl, rfl⟩ := e10
 obtain ⟨Y, hY⟩ : ∃ Y, W1.setCell ⟨zs, 3, none⟩ (.slice (some ⟨W1.heap.size, 0, none⟩) 1 1) = Y := ⟨_, rfl⟩
 have hYs : Y.heap.size = W1.heap.size := by rw [← hY]; simp
 have hYk : ∀ j, j ≠ zs → Y.heap[j]? = W1.heap[j]? := fun j hj => by rw [← hY]; exact heap_setCell_other W1 ⟨zs, 3, none⟩ j _ hj
 have hYz : Y.heap[zs]? = some (.cells #[.int .i64 ent, .bool fz, vV, .slice (some ⟨W1.heap.size, 0, none⟩) 1 1] 46 (0, 0)) := by rw [← hY]; exact heap_setCell_same W1 zs 3 _ 46 _ h'.s
 have hYb : Below Bs W1 Y := by rw [← hY]; exact Below.setCell (Below.refl _ _) hzb _
 rw [hY]
 have hxa : Ext Y (Y.alloc (.cells #[.slice A1 n1 c1, .slice A2 n2 c2] 53)) := (Ext.refl Y).alloc _
 have hot : kTx.own 53 (Y.alloc (.cells #[.slice A1 n1 c1, .slice A2 n2 c2] 53)) Bs (fun j => Bs ≤ j ∧ j ≠ zs ∧ vV.ownBlock ≠ some j) (.slice (some ⟨Y.heap.size, 0, none⟩) 1 1) [t] := by
  refine own_new (by omega) (kTx_rep.2 ⟨_, _, _, _, _, _, rfl, k1, k2, ?_, ?_⟩)
  ·exact Lay.row_mono (Lay.row_keep (Lay.row_mono (Q := fun j => W.heap.size ≤ j ∧ j < W1.heap.size) k3 fun j hj hl => ⟨hj, hl⟩) (by omega) fun j hj _ => hYk j (by omega)) fun j hj _ => ⟨⟨by omega, by omega, fun e => by have := (hvl j e).2; omega⟩, by omega⟩
  ·exact Lay.row_mono (Lay.row_keep (Lay.row_mono (Q := fun j => W.heap.size ≤ j ∧ j < W1.heap.size) k4 fun j hj hl => ⟨hj, hl⟩) (by omega) fun j hj _ => hYk j (by omega)) fun j hj _ => ⟨⟨by omega, by omega, fun e => by have := (hvl j e).2; omega⟩, by omega⟩
 rw [hYs] at hot
 refine ⟨(h'.low.keep hYb).keep (Below.mono hxa (by omega)), (hxa.block _ (by omega)).trans hYz, Lay.own_ext (Lay.own_keep h'.ov (by omega) fun j hj hl => ?_) hxa, hot, h.d1, ?_, ?_, hzb⟩
 ·rcases hj with hj | hj
  ·exact hj.elim
  ·exact hYk j fun e => h.d1 (hj.trans (congrArg some e))
 ·intro e; have : some W1.heap.size = some zs := e; injection this; omega
 ·intro j hj e
  have : some W1.heap.size = some j := e
  injection this with this
  have := (hvl j hj).2
  omega
def InR (w : World) (ms ht : Int) (fr : Nat) (secs : List Se) (vS : Value) (Bs zs : Nat) (ent : Int) (fz : Bool) (v0 : Int) (i : Nat) (s8 : Value) (W : World) : Prop :=
 ∃ (k : Nat) (A B : Option Addr) (c d : Nat) (vers : List Int) (texts : List Tx), k ≤ 2 ∧ s8 = .int .i64 k ∧ (k ≠ 0 → fz = true) ∧ vers = v0 :: (List.range k).map (fun (j : Nat) => 30 + 7 * (i : Int) - 3 * (j : Int)) ∧ texts.length = k + 1 ∧ (∀ t ∈ texts, OkT t) ∧
  InS w ms ht fr secs vS Bs zs ent fz (.slice A (k + 1) c) (.slice B (k + 1) d) vers texts W
theorem InS.fin {w : World} {ms ht : Int} {fr : Nat} {secs : List Se} {vS : Value} {Bs zs : Nat} {ent : Int} {fz : Bool} {vV vT : Value} {vers : List Int} {texts : List Tx} {W : World} (h : InS w ms ht fr secs vS Bs zs ent fz vV vT vers texts W) (hm : secs.length ≤ 1000) (hok : SecOk fr secs.length ⟨ent, fz, vers, texts⟩) :
  ∃ A' c' w', (Builtin.append_ #[25, 25] 25 #[vS, .slice (some ⟨W.heap.size, 0, none⟩) 1 1]).run Tryz.prog (W.alloc (.cells #[.int .i64 ent, .bool fz, vV, vT] 46)) = .ok (.slice A' (secs.length + 1) c') w' ∧
   w'.heap[w.heap.size + 1]? = some (.cells #[.int .i64 ms, .int .i64 ht, vS] 27 (0, 0)) ∧ BgS w ms ht fr (secs ++ [⟨ent, fz, vers, texts⟩]) (.slice A' (secs.length + 1) c') (w'.setCell ⟨w.heap.size + 1, 2, none⟩ (.slice A' (secs.length + 1) c')) := by
 have hlz := h.lt
 have hzb := h.hz
 have hwb := h.low.hb
 obtain ⟨A1, c1, e1, k1, v1⟩ := own_rowN (Q := fun j => w.heap.size + 2 ≤ j ∧ vS.ownBlock ≠ some j) h.ov (fun j hj => hj.elim) (fun j hj _ => ⟨by omega, fun e => by have := h.low.hS j e; omega⟩)
 obtain ⟨A2, c2, e2, k2, v2⟩ := own_rowN (Q := fun j => w.heap.size + 2 ≤ j ∧ vS.ownBlock ≠ some j) h.ot (fun j hj _ => ⟨by omega, fun e => by have := h.low.hS j e; omega⟩) (fun j hj _ => ⟨by omega, fun e => by have := h.low.hS j e; omega⟩)
 have hoS := Lay.own_mono (P' := fun j => w.heap.size + 2 ≤ j) h.low.own fun j hj _ => hj.1
 have hSl := Lay.own_lt h.low.own
 obtain ⟨A', c', w', r1, r2, r3, r4, r5, r6⟩ := own_app1 (k := kSe) (Pr := Tryz.prog) (t := 25) Tryz.underlying25 info46 rfl (by decide) (by omega) hoS (by omega) (cs := #[.int .i64 ent, .bool fz, vV, vT]) (T := 46) (x := ⟨ent, fz, vers, texts⟩)
  (by rw [e1, e2]; exact kSe_rep.2 ⟨_, _, _, _, _, _, rfl, k1, k2, v1, v2⟩) 1 (by omega)
 have hb1 : w'.heap[w.heap.size + 1]? = some (.cells #[.int .i64 ms, .int .i64 ht, vS] 27 (0, 0)) := (r4 _ (by omega) (fun e => by have := (hSl _ e).1; omega)).trans h.low.b
 have hr1 : w'.heap[w.heap.size]? = _ := (r4 _ (by omega) (fun e => by have := (hSl _ e).1; omega)).trans h.low.r
 refine ⟨A', c', w', r1, hb1, ⟨?_, ?_, heap_setCell_same w' (w.heap.size + 1) 2 _ 27 _ hb1, Lay.own_keep r2 (by simp) ?_, ?_⟩⟩
 ·exact Ext.setCell (p := ⟨w.heap.size + 1, 2, none⟩) (Below.trans h.low.x (r3 w.heap.size (by omega))) (by show w.heap.size ≤ w.heap.size + 1; omega) _
 ·rw [heap_setCell_other w' ⟨w.heap.size + 1, 2, none⟩ w.heap.size _ (by show w.heap.size ≠ w.heap.size + 1; omega)]; exact hr1
 ·intro j hj _
  refine heap_setCell_other w' ⟨w.heap.size + 1, 2, none⟩ j _ ?_
  show j ≠ w.heap.size + 1
  rcases hj with hj | hj
  ·omega
  ·have := (Lay.own_lt r2 j hj).1; omega
 ·intro k x hk
  rw [List.getElem?_append] at hk
  split at hk
  ·exact h.low.ok k x hk
  ·next hlt =>
   have hk0 : k - secs.length = 0 := by
    have := (List.getElem?_eq_some_iff.1 hk).1
    simp at this; omega
   rw [hk0] at hk
   injection hk with hk
   subst hk
   rw [show k = secs.length by omega]
   exact hok
def BookGet (w : World) (e : Ending) (w' : World) : Prop := ∃ (b : Bk) (A : Option Addr) (n c : Nat), e = .returned (.agg #[.int .i64 b.ms, .int .i64 b.ht, .slice A n c]) ∧ OkG b ∧ n ≤ c ∧ kSe.row w' (fun j => w.heap.size ≤ j) A n b.secs ∧ Ext w w'
end
end Go.Proofs.YtdbnddmncbjobaaGreatDoor