/- What all walks of this claim share: worlds that grow; labels and citations as plain data. -/
import Derived.WalkKit
import Derived.WalkSpells
import Derived.WalkSmall
import Derived.Below
import Derived.Lib.Hide
import Derived.Test.YtdbnddmncbjobaaGreatDoorProg
import Derived.Maps.AppendAt
import Derived.WalkLawsBesides
import Derived.IntWalk
import Derived.Shelf.Small.Bits
import Derived.Shelf.Small.Strs
import Derived.Shelf.Small.Wraps
import Derived.Shelf.Strconv.Atoi
import Derived.Shelf.Strconv.Itoa0
import Derived.Shelf.Strconv.Itoa1
import Derived.Shelf.LaysM
import Derived.Shelf.Strconv.Itoa2
import Derived.Shelf.Strconv.Itoa3
import Derived.Shelf.Strconv.AtoiErrFast
import Derived.Shelf.Strconv.ParseIntEmpty
import Derived.Shelf.Strconv.AtoiFail
import Derived.Shelf.Strconv.Clone
import Derived.Shelf.Strconv.SyntaxError
import Derived.Shelf.LaysC
import Derived.Shelf.Strconv.ToError
import Derived.Shelf.Strconv.Lower
import Derived.Shelf.Strconv.ParseUint10
import Derived.Shelf.Strconv.ParseUint10Empty
import Derived.Shelf.Strconv.ParseUint10Any
import Derived.Shelf.Strconv.ParseInt10
import Derived.Shelf.Strconv.AtoiLong
import Derived.Shelf.Strconv.AtoiInnerAll
import Derived.Shelf.Strconv.RangeError
import Derived.Shelf.Strconv.ToErrorRange
import Derived.Shelf.Strconv.AtoiAll
import Derived.Shelf.Strconv.ErrVarAll
import Derived.Shelf.Strconv.ParseUintEmpty
import Derived.Shelf.Strconv.ParseUint10b64
import Derived.Shelf.Strconv.ParseUint10b32
import Derived.Shelf.Strconv.ParseUint10b16
import Derived.Shelf.Strconv.ParseUint10b8
import Derived.Shelf.Strconv.ParseUint10At
import Derived.Shelf.Strconv.ParseInt10At64
import Derived.Shelf.Strconv.ParseInt10At32
import Derived.Shelf.Strconv.ParseInt10At16
import Derived.Shelf.Strconv.ParseInt10At8
import Derived.Shelf.Strconv.ParseInt10All
import Derived.Shelf.Strings.Search1
import Derived.Shelf.Strings.Search2
import Derived.Shelf.Strings.Cut
import Derived.Shelf.Strings.Shaped
import Derived.Shelf.Bits.Mul64
import Derived.Ground.Names2Prog
import Derived.Shelf.Slices.Clone
import Derived.Lib.ItoaNum
import Derived.Lib.AppendIntMem
import Derived.Lib.ItoaLen
import Derived.Lib.AtoiAll
import Derived.Lib.IndexMore
import Derived.Deep.RegionHeld3
import Derived.Lib.CutLaws
namespace Go.Proofs.YtdbnddmncbjobaaGreatDoor
section
open Go Go.RowKit
theorem Hd {p : Prop} (h : p) : Hid p := Lib.hid h
def Ext (w w' : World) : Prop := Below w.heap.size w w'
theorem Ext.refl (w : World) : Ext w w := Below.refl _ _
theorem Ext.trans {a b c : World} (h : Ext a b) (k : Ext b c) : Ext a c := Below.trans h (Below.mono k h.size)
theorem Ext.alloc {a w : World} (h : Ext a w) (o : Obj) : Ext a (w.alloc o) := Below.alloc h h.size o
theorem Ext.drewN {a w : World} (h : Ext a w) (n : Nat) : Ext a (w.drewN n) := below_drewN h n
theorem Ext.drew {a w : World} (h : Ext a w) : Ext a w.drew := Below.drew h
theorem Ext.lt {a w : World} (h : Ext a w) : a.heap.size ≤ w.heap.size := h.size
theorem Ext.cells {w w1 : World} (hb : Ext w w1) : (∀ b o, b < w.heap.size → w1.cell? ⟨b, o, none⟩ = w.cell? ⟨b, o, none⟩) ∧ (∀ b o, b < w.heap.size → w1.frozen? ⟨b, o, none⟩ = w.frozen? ⟨b, o, none⟩) :=
 ⟨fun b o h => hb.cell (p := ⟨b, o, none⟩) h, fun b o h => hb.frozen (p := ⟨b, o, none⟩) h⟩
structure Ct where
 br : Int
 nu : Int
 su : Int
 li : Int
theorem ret_int {a b : Int} (h : a = b) : Ending.returned (.int .i64 a) = .returned (.int .i64 b) := by rw [h]
end
section
open Go Go.RowKit
theorem own_form {w : World} {base : Nat} {e : TypeId} {size : Nat} {v : Value} {n : Nat} {xs : List Value} (h : w.ownsRow base e size v n xs) :
  ∃ A c, v = .slice A n c ∧ n ≤ c ∧ (A = none ∧ n = 0 ∧ c = 0 ∨ ∃ g, A = some ⟨g, 0, none⟩ ∧ base ≤ g ∧ g < w.heap.size ∧ ∀ j u, xs[j]? = some u → w.cell? ⟨g, j, none⟩ = some u) := by
 rcases h.2 with ⟨rfl, rfl⟩ | ⟨g, cap, cur, rfl, hb, hg, hn, _, _, _⟩
 ·exact ⟨none, 0, rfl, Nat.le_refl _, .inl ⟨rfl, rfl, rfl⟩⟩
 ·refine ⟨some ⟨g, 0, none⟩, cap, rfl, hn, .inr ⟨g, rfl, hb, lt_of_block hg, fun j u hu => ?_⟩⟩
  have := h.cells (g := g) rfl j u hu
  rwa [Addr.add_lit, Nat.zero_add] at this
theorem run_append_src5 {P : Program} {w : World} {base : Nat} {t e : TypeId} {z : Value} {size bytes : Nat} (ht : P.underlying t = some (.slice e)) (hinfo : (P.info? e).map (fun i => (i.zero, i.size, i.bytes)) = some (some z, size, bytes))
  (hzs : z.cells.size = size) (hsz : 0 < size) {v : Value} {n : Nat} {xs : List Value} (hown : w.ownsRow base e size v n xs) {A : Option Addr} {m c : Nat} {news : List Value} (hl : news.length = m * size)
  (hA : 0 < m → ∃ b off, A = some ⟨b, off, none⟩ ∧ ∀ j u, news[j]? = some u → w.cell? ⟨b, off + j, none⟩ = some u) (h1 : ∀ u ∈ news, u.oneCell' = true)
  (h63 : n + m ≤ maxLen) (hbytes : (n + m) * bytes ≤ 140737488355328) (hbase : base ≤ w.heap.size) :
  ∃ A' c' w', (Builtin.append_ #[t, t] t #[v, .slice A m c]).run P w = .ok (.slice A' (n + m) c') w' ∧ w'.ownsRow base e size (.slice A' (n + m) c') (n + m) (xs ++ news) ∧ (∀ B, B ≤ base → Below B w w') ∧
   (∀ k, k < w.heap.size → (∀ a, v ≠ .slice (some ⟨k, 0, none⟩) n a) → w'.heap[k]? = w.heap[k]?) ∧ ((Value.slice A' (n + m) c').ownBlock = v.ownBlock ∨ (Value.slice A' (n + m) c').ownBlock = some w.heap.size) := by
 obtain ⟨i, hi, hz, hs, hb⟩ := info_parts hinfo
 have fin : ∀ v' w', w'.ownsRow base e size v' (n + m) (xs ++ news) → w.grownBy w' v.ownBlock → (v'.ownBlock = v.ownBlock ∨ v'.ownBlock = some w.heap.size) → (Builtin.append_ #[t, t] t #[v, .slice A m c]).run P w = .ok v' w' →
   ∃ A' c' w', (Builtin.append_ #[t, t] t #[v, .slice A m c]).run P w = .ok (.slice A' (n + m) c') w' ∧ w'.ownsRow base e size (.slice A' (n + m) c') (n + m) (xs ++ news) ∧ (∀ B, B ≤ base → Below B w w') ∧
   (∀ k, k < w.heap.size → (∀ a, v ≠ .slice (some ⟨k, 0, none⟩) n a) → w'.heap[k]? = w.heap[k]?) ∧ ((Value.slice A' (n + m) c').ownBlock = v.ownBlock ∨ (Value.slice A' (n + m) c').ownBlock = some w.heap.size) := by
  intro v' w' h2 h3 h9 h4
  obtain ⟨A', c', rfl, _, _⟩ := own_form h2
  refine ⟨A', c', w', h4, h2, fun B hB => (Below.refl B w).grown h3 (Nat.le_trans hB hbase) (fun k hk => Nat.le_trans hB (hown.lt k hk).1), fun k hk hne => h3.block k hk (fun e => ?_), h9⟩
  rcases hown.2 with ⟨rfl, _⟩ | ⟨g, cap, cur, rfl, _⟩
  ·simp [Value.ownBlock] at e
  ·simp only [Value.ownBlock, Option.some.injEq] at e
   subst e
   exact hne _ rfl
 by_cases h0 : 0 < m
 ·obtain ⟨b, off, rfl, hc⟩ := hA h0
  obtain ⟨v', w', hr, h2, h3, _, h9⟩ := run_append_own_at (P := P) w base t t e i z size bytes ht hi hz hs hb hzs hsz v n xs hown ⟨b, off, none⟩ m c news hl (fun j u hu => by rw [Addr.add_lit]; exact hc j u hu) h1 h63 hbytes hbase
  exact fin v' w' h2 h3 h9 hr
 ·obtain rfl : m = 0 := by omega
  obtain rfl : news = [] := List.eq_nil_of_length_eq_zero (by simpa using hl)
  rcases A with _ | ad
  ·have hr : (Builtin.append_ #[t, t] t #[v, .slice none 0 c]).run P w = .ok v w := by
    rcases hown.2 with ⟨rfl, rfl⟩ | ⟨g, cap, cur, rfl, _, _, hnc, _⟩
    ·simp [Builtin.append_, run_underlying ht, sizeOf, typeInfo, hi, Builtin.lenOf, Builtin.firstCells]
    ·simp [Builtin.append_, run_underlying ht, sizeOf, typeInfo, hi, Builtin.lenOf, Builtin.firstCells, hnc, storeCells]
   exact fin v w (by simpa using hown) (World.grownBy.refl w _) (.inl rfl) hr
  ·obtain ⟨v', w', hr, h2, h3, _, h9⟩ := run_append_own_at (P := P) w base t t e i z size bytes ht hi hz hs hb hzs hsz v n xs hown ad 0 c [] hl (fun j u hu => by simp at hu) h1 h63 hbytes hbase
   exact fin v' w' h2 h3 h9 hr
theorem wpList_append_run {P : Program} {w : World} {ops : Array Oper} {rest : List Oper} {o : Oper} {a : Act} {Q : Exit → Act → World → Prop} {s x : Operand} {t : TypeId} {vs vx v' : Value} {w' : World}
  (hr : (Builtin.append_ #[t, t] t #[vs, vx]).run P w = .ok v' w') (hgd : o.guard = none)
  (ho : o.op = .call { callee := .builtin .append, args := #[s, x], argTypes := #[t, t] }) (hty : o.type = t) (hs : a.eval s = vs) (hx : a.eval x = vx)
  (h : wpList P ops Q rest (a.put o.dst v') w') : wpList P ops Q (o :: rest) a w := by
 refine wpList_plain hgd fun _ hK => ?_
 unfold Oper.wp execOp
 simp only [ho, hty, resolve, invoke, builtin, Sem.run_bind, Sem.run_pure, Result.andThen_ok, List.map_toArray, List.map_cons, List.map_nil, hs, hx, hr]
 exact hK _ _ h
section
variable {α : Type} (cf : α → List Value) (sz : Nat)
def gcells (l : List α) : List Value := l.flatMap cf
variable {cf sz}
theorem gcells_len (hcf : ∀ a, (cf a).length = sz) (l : List α) : (gcells cf l).length = l.length * sz := by
 induction l with
 | nil => simp [gcells]
 | cons v l ih => simp only [gcells, List.flatMap_cons, List.length_append] at ih ⊢; rw [ih, hcf, List.length_cons, Nat.succ_mul]; omega
theorem gcells_at (hcf : ∀ a, (cf a).length = sz) (l : List α) : ∀ (i : Nat) (a : α), l[i]? = some a → ∀ j, j < sz → (gcells cf l)[i * sz + j]? = (cf a)[j]? := by
 induction l with
 | nil => intro i a h; simp at h
 | cons v l ih =>
  intro i a h j hj
  simp only [gcells, List.flatMap_cons]
  cases i with
  | zero =>
   obtain rfl : v = a := by simpa using h
   rw [List.getElem?_append_left (by rw [hcf]; omega)]; simp
  | succ i =>
   rw [List.getElem?_append_right (by rw [hcf, Nat.succ_mul]; omega)]
   have e : (i + 1) * sz + j - (cf v).length = i * sz + j := by rw [hcf, Nat.succ_mul]; omega
   rw [e]
   exact ih i a (by simpa using h) j hj
theorem gcells_append (a b : List α) : gcells cf (a ++ b) = gcells cf a ++ gcells cf b := by simp [gcells]
theorem gcells_one (h1 : ∀ a, ∀ u ∈ cf a, u.oneCell' = true) (l : List α) : ∀ u ∈ gcells cf l, u.oneCell' = true := by
 intro u hu
 obtain ⟨v, _, hv⟩ := List.mem_flatMap.1 hu
 exact h1 v u hv
variable (cf sz)
def SL (W : World) (A : Option Addr) (m : Nat) (l : List α) : Prop :=
 m = l.length ∧ (0 < m → ∃ b off, A = some ⟨b, off, none⟩ ∧ b < W.heap.size ∧ ∀ i a, l[i]? = some a → ∀ j u, (cf a)[j]? = some u → W.cell? ⟨b, off + i * sz + j, none⟩ = some u)
def OL (w : World) (base : Nat) (e : TypeId) (v : Value) (l : List α) : Prop := w.ownsRow base e sz v l.length (gcells cf l)
variable {cf sz}
theorem SL.ext {W W' : World} {A : Option Addr} {m : Nat} {l : List α} (h : SL cf sz W A m l) (hx : Ext W W') : SL cf sz W' A m l := by
 refine ⟨h.1, fun h0 => ?_⟩
 obtain ⟨b, off, rfl, hb, hc⟩ := h.2 h0
 obtain ⟨q, _⟩ := hx.cells
 exact ⟨b, off, rfl, Nat.lt_of_lt_of_le hb hx.lt, fun i a hi j u hu => by rw [q _ _ hb]; exact hc i a hi j u hu⟩
theorem SL.nil (W : World) : SL cf sz W none 0 ([] : List α) := ⟨rfl, fun h => absurd h (by omega)⟩
theorem OL.nil (w : World) (base : Nat) (e : TypeId) : OL cf sz w base e (.slice none 0 0) ([] : List α) := World.ownsRow_nil w base e sz
theorem OL.form (hcf : ∀ a, (cf a).length = sz) {w : World} {base : Nat} {e : TypeId} {v : Value} {l : List α} (h : OL cf sz w base e v l) :
  ∃ A c, v = .slice A l.length c ∧ l.length ≤ c ∧ SL cf sz w A l.length l := by
 obtain ⟨A, c, rfl, hc, hh⟩ := own_form h
 refine ⟨A, c, rfl, hc, rfl, fun h0 => ?_⟩
 rcases hh with ⟨_, hn, _⟩ | ⟨g, rfl, hb, hg, hx⟩
 ·omega
 ·refine ⟨g, 0, rfl, hg, fun i a hi j u hu => ?_⟩
  have hj : j < sz := by rw [← hcf a]; exact (List.getElem?_eq_some_iff.1 hu).1
  have := hx (i * sz + j) u ((gcells_at hcf l i a hi j hj).trans hu)
  simpa [Nat.add_assoc] using this
theorem OL.ext {w w' : World} {base : Nat} {e : TypeId} {v : Value} {l : List α} (h : OL cf sz w base e v l) (hx : Ext w w') : OL cf sz w' base e v l := by
 refine ⟨h.1, ?_⟩
 rcases h.2 with h2 | ⟨g, cap, cur, h1, h2, h3, h4⟩
 ·exact .inl h2
 ·exact .inr ⟨g, cap, cur, h1, h2, by rw [hx.block g (lt_of_block h3)]; exact h3, h4⟩
theorem OL.append {P : Program} (hcf : ∀ a, (cf a).length = sz) (h1c : ∀ a, ∀ u ∈ cf a, u.oneCell' = true) (hsz : 0 < sz) {t e : TypeId} {z : Value} {bytes : Nat} (ht : P.underlying t = some (.slice e))
  (hinfo : (P.info? e).map (fun i => (i.zero, i.size, i.bytes)) = some (some z, sz, bytes)) (hzs : z.cells.size = sz) (hby : bytes ≤ 1000)
  {w : World} {base : Nat} {v : Value} {l : List α} (h : OL cf sz w base e v l) {A : Option Addr} {m : Nat} {l' : List α} (hs : SL cf sz w A m l') (c : Nat) (hm : l.length + m ≤ 100000000) (hbase : base ≤ w.heap.size) :
  ∃ A' c' w', (Builtin.append_ #[t, t] t #[v, .slice A m c]).run P w = .ok (.slice A' (l.length + m) c') w' ∧ OL cf sz w' base e (.slice A' (l.length + m) c') (l ++ l') ∧ (∀ B, B ≤ base → Below B w w') ∧
   (∀ k, k < w.heap.size → (∀ a, v ≠ .slice (some ⟨k, 0, none⟩) l.length a) → w'.heap[k]? = w.heap[k]?) := by
 obtain ⟨rfl, hs⟩ := hs
 obtain ⟨A', c', w', h1, h2, h3, h4, _⟩ := run_append_src5 (P := P) (t := t) ht hinfo hzs hsz h (A := A) (m := l'.length) (c := c) (news := gcells cf l') (gcells_len hcf l')
  (fun h0 => by
   obtain ⟨b, off, rfl, _, hc⟩ := hs h0
   refine ⟨b, off, rfl, fun j u hu => ?_⟩
   have hj : j < l'.length * sz := by rw [← gcells_len hcf]; exact (List.getElem?_eq_some_iff.1 hu).1
   have hjs : j / sz < l'.length := Nat.div_lt_of_lt_mul (by rw [Nat.mul_comm]; exact hj)
   have e : j = j / sz * sz + j % sz := by rw [Nat.mul_comm]; exact (Nat.div_add_mod j sz).symm
   have hmod : j % sz < sz := Nat.mod_lt _ hsz
   rw [e, gcells_at hcf l' (j / sz) _ (List.getElem?_eq_getElem hjs) (j % sz) hmod] at hu
   have := hc (j / sz) _ (List.getElem?_eq_getElem hjs) (j % sz) u hu
   rw [Nat.add_assoc, ← e] at this
   exact this)
  (gcells_one h1c l') (by simp only [maxLen]; omega) (Nat.le_trans (Nat.mul_le_mul hm hby) (by omega)) hbase
 refine ⟨A', c', w', h1, ?_, h3, h4⟩
 unfold OL
 rw [gcells_append, List.length_append]
 exact h2
theorem SL.one (w : World) (a : α) (cs : Array Value) (hcs : cs.toList = cf a) (t : TypeId) : SL cf sz (w.alloc (.cells cs t)) (some ⟨w.heap.size, 0, none⟩) 1 [a] := by
 refine ⟨rfl, fun _ => ⟨w.heap.size, 0, rfl, by simp, fun i a' hi j u hu => ?_⟩⟩
 obtain rfl : i = 0 := by
  have := (List.getElem?_eq_some_iff.1 hi).1
  simp at this; exact this
 obtain rfl : a = a' := by simpa using hi
 rw [cell_of_row _ w.heap.size _ _ t (0, 0) (heap_alloc_new w _)]
 rw [← hcs] at hu
 simpa using hu
end
end
section
open Go Go.RowKit
theorem Ext.setCell {a w : World} (h : Ext a w) {p : Addr} (hp : a.heap.size ≤ p.block) (u : Value) : Ext a (w.setCell p u) := Below.setCell h hp u
theorem SL.blocks {α : Type} {cf : α → List Value} {sz : Nat} {W W' : World} {A : Option Addr} {m : Nat} {l : List α} (h : SL cf sz W A m l) (hk : ∀ x, A = some x → x.block < W.heap.size → W'.heap[x.block]? = W.heap[x.block]?) : SL cf sz W' A m l := by
 refine ⟨h.1, fun h0 => ?_⟩
 obtain ⟨b, off, e, hb, hc⟩ := h.2 h0
 have he := hk _ e hb
 simp only at he
 refine ⟨b, off, e, ?_, fun i x hx j u hu => ?_⟩
 ·have h5 : W.heap[b]? ≠ none := by rw [Array.getElem?_eq_getElem hb]; simp
  rw [← he] at h5
  by_cases h6 : b < W'.heap.size
  ·exact h6
  ·exact absurd (Array.getElem?_eq_none (by omega)) h5
 ·rw [World.cell?_of_block (a := ⟨b, _, none⟩) he]; exact hc i x hx j u hu
structure Mv (b : Nat) (W W' : World) : Prop where
 size : W.heap.size ≤ W'.heap.size
 keep : ∀ k, k ≠ b → k < W.heap.size → W'.heap[k]? = W.heap[k]?
 ext : ∀ w0, w0.heap.size ≤ b → Ext w0 W → Ext w0 W'
theorem Mv.refl (b : Nat) (W : World) : Mv b W W := ⟨Nat.le_refl _, fun _ _ _ => rfl, fun _ _ h => h⟩
theorem Mv.trans {b : Nat} {W W' W'' : World} (h : Mv b W W') (k : Mv b W' W'') : Mv b W W'' :=
 ⟨Nat.le_trans h.size k.size, fun j hj hl => (k.keep j hj (Nat.lt_of_lt_of_le hl h.size)).trans (h.keep j hj hl), fun w0 h0 hx => k.ext w0 h0 (h.ext w0 h0 hx)⟩
theorem Mv.of_ext {b : Nat} {W W' : World} (h : Ext W W') : Mv b W W' := ⟨h.lt, fun k _ hk => h.block k hk, fun _ _ hx => hx.trans h⟩
theorem Mv.set {W : World} {b i : Nat} (u : Value) : Mv b W (W.setCell ⟨b, i, none⟩ u) :=
 ⟨by simp, fun k hk _ => heap_setCell_other W ⟨b, i, none⟩ k u hk, fun w0 h0 hx => hx.setCell (p := ⟨b, i, none⟩) h0 u⟩
theorem Mv.setNew {b : Nat} {W W' : World} (h : Mv b W W') {p : Addr} (hp : W.heap.size ≤ p.block) (u : Value) : Mv b W (W'.setCell p u) :=
 ⟨by simpa using h.size, fun k h1 h2 => (heap_setCell_other W' p k u (by omega)).trans (h.keep k h1 h2), fun w0 h1 h2 => (h.ext w0 h1 h2).setCell (p := p) (Nat.le_trans h2.lt hp) u⟩
theorem ownBlock_of {v : Value} {k n : Nat} (h : v.ownBlock ≠ some k) (a : Nat) : v ≠ .slice (some ⟨k, 0, none⟩) n a := fun e => h (by rw [e]; rfl)
theorem OL.keepB {α : Type} {cf : α → List Value} {sz : Nat} {w w' : World} {B : Nat} {e : TypeId} {v : Value} {l : List α} (h : OL cf sz w B e v l) (hk : ∀ k, v.ownBlock = some k → w'.heap[k]? = w.heap[k]?) : OL cf sz w' B e v l := by
 refine ⟨h.1, ?_⟩
 rcases h.2 with h2 | ⟨g, cap, cur, h1, h2, h3, h4⟩
 ·exact .inl h2
 ·exact .inr ⟨g, cap, cur, h1, h2, by rw [hk g (by rw [h1]; rfl)]; exact h3, h4⟩
end
section
open Go Go.RowKit
def Ct.val (c : Ct) : Value := .agg #[.int .i64 c.br, .int .i64 c.nu, .int .i64 c.su, .int .i64 c.li]
end
section
open Go Go.RowKit
end
end Go.Proofs.YtdbnddmncbjobaaGreatDoor
namespace Go.Proofs
open Go.Shelf
def Tryz.lays125_ren : Go.Shelf.Ren := ⟨fun | 125 => 141 | 128 => 166 | 129 => 167 | n => n, fun | 46 => 174 | 3 => 3 | 51 => 182 | 53 => 214 | 4 => 4 | 5 => 5 | 9 => 9 | n => n, fun | n => n⟩
theorem Tryz.lays125 : Go.Proofs.Lays.n125 Tryz.prog Tryz.lays125_ren := {
 mixed := by kernel_rfl
 f125 := Tryz.func141.trans (congrArg some (by kernel_rfl))
 f128 := Tryz.func166.trans (congrArg some (by kernel_rfl))
 f129 := Tryz.func167.trans (congrArg some (by kernel_rfl))
 t3 := Tryz.underlying3
 a3 := Tryz.isAgg3
 z3 := Tryz.sizeOf3
 v3 := Tryz.zeroValue3
 t4 := Tryz.underlying4
 a4 := Tryz.isAgg4
 z4 := Tryz.sizeOf4
 v4 := Tryz.zeroValue4
 t5 := Tryz.underlying5
 a5 := Tryz.isAgg5
 z5 := Tryz.sizeOf5
 v5 := Tryz.zeroValue5
 t9 := Tryz.underlying9
 a9 := Tryz.isAgg9
 z9 := Tryz.sizeOf9
 v9 := Tryz.zeroValue9
 t46 := Tryz.underlying174
 a46 := Tryz.isAgg174
 z46 := Tryz.sizeOf174
 v46 := Tryz.zeroValue174
 t51 := Tryz.underlying182
 a51 := Tryz.isAgg182
 z51 := Tryz.sizeOf182
 v51 := Tryz.zeroValue182
 t53 := Tryz.underlying214
 a53 := Tryz.isAgg214
 z53 := Tryz.sizeOf214
 v53 := Tryz.zeroValue214 }
theorem Tryz.bits_Len (x : Int) (w : World) (h0 : 0 ≤ x) (h1 : x ≤ 18446744073709551615) :
  Calls Tryz.prog 141 #[.int .u64 x] w fun e w' => e = .returned (.int .i64 (Lib.bitLen x.toNat)) ∧ w' = w := Any.bits_Len Tryz.lays125 x w h0 h1
def Tryz.lays106_ren : Go.Shelf.Ren := ⟨fun | 106 => 68 | 213 => 122 | 265 => 147 | n => n, fun | 9 => 9 | 3 => 3 | n => n, fun | n => n⟩
theorem Tryz.lays106 : Go.Proofs.Lays.n106 Tryz.prog Tryz.lays106_ren := {
 mixed := by kernel_rfl
 f106 := Tryz.func68.trans (congrArg some (by kernel_rfl))
 f213 := Tryz.func122.trans (congrArg some (by kernel_rfl))
 f265 := Tryz.func147.trans (congrArg some (by kernel_rfl))
 t3 := Tryz.underlying3
 a3 := Tryz.isAgg3
 z3 := Tryz.sizeOf3
 v3 := Tryz.zeroValue3
 t9 := Tryz.underlying9
 a9 := Tryz.isAgg9
 z9 := Tryz.sizeOf9
 v9 := Tryz.zeroValue9 }
open Go.RowKit in
theorem Tryz.strings_Compare (a b : ByteArray) (w : World) :
  Calls Tryz.prog 68 #[.string a, .string b] w fun e w' => e = .returned (.int .i64 (Lib.compareBytes a.data.toList b.data.toList)) ∧ w' = w := Any.strings_Compare Tryz.lays106 a b w
def Tryz.lays122_ren : Go.Shelf.Ren := ⟨fun | 122 => 142 | 215 => 168 | n => n, fun | 3 => 3 | 4 => 4 | n => n, fun | n => n⟩
theorem Tryz.lays122 : Go.Proofs.Lays.n122 Tryz.prog Tryz.lays122_ren := {
 mixed := by kernel_rfl
 f122 := Tryz.func142.trans (congrArg some (by kernel_rfl))
 f215 := Tryz.func168.trans (congrArg some (by kernel_rfl))
 t3 := Tryz.underlying3
 a3 := Tryz.isAgg3
 z3 := Tryz.sizeOf3
 v3 := Tryz.zeroValue3
 t4 := Tryz.underlying4
 a4 := Tryz.isAgg4
 z4 := Tryz.sizeOf4
 v4 := Tryz.zeroValue4 }
open Go.RowKit in
theorem Tryz.cmp_Compare_int (x y : Int) (w : World) :
  Calls Tryz.prog 142 #[.int .i64 x, .int .i64 y] w fun e w' => e = .returned (.int .i64 (Lib.compareInt x y)) ∧ w' = w := Any.cmp_Compare_int Tryz.lays122 x y w
def Tryz.lays212_ren : Go.Shelf.Ren := ⟨fun | 212 => 249 | 263 => 251 | 264 => 252 | n => n, fun | 46 => 174 | 51 => 182 | 146 => 259 | 53 => 214 | 148 => 286 | n => n, fun | n => n⟩
theorem Tryz.lays212 : Go.Proofs.Lays.n212 Tryz.prog Tryz.lays212_ren := {
 mixed := by kernel_rfl
 f212 := Tryz.func249.trans (congrArg some (by kernel_rfl))
 f263 := Tryz.func251.trans (congrArg some (by kernel_rfl))
 f264 := Tryz.func252.trans (congrArg some (by kernel_rfl))
 t46 := Tryz.underlying174
 a46 := Tryz.isAgg174
 z46 := Tryz.sizeOf174
 v46 := Tryz.zeroValue174
 t51 := Tryz.underlying182
 a51 := Tryz.isAgg182
 z51 := Tryz.sizeOf182
 v51 := Tryz.zeroValue182
 t53 := Tryz.underlying214
 a53 := Tryz.isAgg214
 z53 := Tryz.sizeOf214
 v53 := Tryz.zeroValue214
 t146 := Tryz.underlying259
 a146 := Tryz.isAgg259
 z146 := Tryz.sizeOf259
 v146 := Tryz.zeroValue259
 t148 := Tryz.underlying286
 a148 := Tryz.isAgg286
 z148 := Tryz.sizeOf286
 v148 := Tryz.zeroValue286 }
open Go.RowKit Go.Lib in
theorem Tryz.bits_Mul (x y : Nat) (hx : x < 18446744073709551616) (hy : y < 18446744073709551616) (w : World) :
  Calls Tryz.prog 249 #[.int .u64 x, .int .u64 y] w fun e w' => e = .returned (.tuple #[.int .u64 ((x * y / 18446744073709551616 : Nat) : Int), .int .u64 ((x * y % 18446744073709551616 : Nat) : Int)]) ∧ w' = w := Any.bits_Mul Tryz.lays212 x y hx hy w
def Tryz.laysNm215_ren : Go.Shelf.Ren := ⟨fun | 15 => 128 | n => n, fun | 22 => 22 | 3 => 3 | 4 => 4 | n => n, fun | n => n⟩
theorem Tryz.laysNm215 : Go.Proofs.Lays2.n15 Tryz.prog Tryz.laysNm215_ren := {
 mixed := by kernel_rfl
 f15 := Tryz.func128.trans (congrArg some (by kernel_rfl))
 t3 := Tryz.underlying3
 a3 := Tryz.isAgg3
 z3 := Tryz.sizeOf3
 v3 := Tryz.zeroValue3
 t4 := Tryz.underlying4
 a4 := Tryz.isAgg4
 z4 := Tryz.sizeOf4
 v4 := Tryz.zeroValue4
 t22 := Tryz.underlying22
 a22 := Tryz.isAgg22
 z22 := Tryz.sizeOf22
 v22 := Tryz.zeroValue22
 i3 := by kernel_rfl }
open Go.RowKit Go.Lib in
theorem Tryz.slices_Clone_int (b off n c : Nat) (zs : List Int) (w : World) (hz : n ≤ zs.length) (hbig : n * 8 ≤ 140737488355328) (hc : ∀ j, j < zs.length → w.cell? ⟨b, off + j, none⟩ = some (.int .i64 (zs.getD j 0))) :
  Calls Tryz.prog 128 #[.slice (some ⟨b, off, none⟩) n c] w fun e w' => ∃ v', e = .returned v' ∧ w'.ownsRow w.heap.size 3 1 v' n ((zs.take n).map (Value.int .i64)) ∧ v' ≠ .slice none 0 0 ∧ Below w.heap.size w w' := Any.slices_Clone_int Tryz.laysNm215 b off n c zs w hz hbig hc
open Go.RowKit Go.Lib in
theorem Tryz.slices_Clone_int_nil (n c : Nat) (w : World) :
  Calls Tryz.prog 128 #[.slice none n c] w fun e w' => e = .returned (.slice none 0 0) ∧ w' = w := Any.slices_Clone_int_nil Tryz.laysNm215 n c w
open Go.RowKit Go.Lib in
theorem Tryz.slices_Clone_int_zero (a : Addr) (c : Nat) (w : World) :
  Calls Tryz.prog 128 #[.slice (some a) 0 c] w fun e w' => ∃ v', e = .returned v' ∧ w'.ownsRow w.heap.size 3 1 v' 0 [] ∧ v' ≠ .slice none 0 0 ∧ Below w.heap.size w w' := Any.slices_Clone_int_zero Tryz.laysNm215 a c w
end Go.Proofs

namespace Go.Proofs.YtdbnddmncbjobaaGreatDoor
section
open Go Go.RowKit
def Tab (w : World) : Prop := ∀ W, Ext w W → Lib.TabIs Tryz.prog W "internal/strconv.uint64pow10" .u64 Lib.pow10Tab
theorem Tab.ext {w w' : World} (h : Tab w) (hx : Ext w w') : Tab w' := fun W hW => h W (hx.trans hW)
end
section
open Go
def low (c : UInt8) : Bool := decide (97 ≤ c.toNat) && decide (c.toNat ≤ 122)
/-! ### Numerals -/
/-! ### Letters -/
/-! ### Numbers of a citation -/
/-! ### Labels -/
end
section
open Go
def NoSl (a : List UInt8) : Prop := ∀ c ∈ a, c ≠ 47
theorem NoSl.append {a b : List UInt8} (h : NoSl a) (k : NoSl b) : NoSl (a ++ b) := fun c hc => by
 rcases List.mem_append.1 hc with hc | hc
 ·exact h c hc
 ·exact k c hc
end
section
open Go Go.RowKit
end
section
open Go Go.RowKit
end
section
open Go Go.RowKit
end
section
open Go Go.RowKit
structure PSt (w W : World) (r : ByteArray) (k : Bool) : Prop where
 ext : Ext w W
 size : w.heap.size + 3 ≤ W.heap.size
 rest : W.cell? ⟨w.heap.size + 1, 0, none⟩ = some (.string r)
 ok : W.cell? ⟨w.heap.size + 2, 0, none⟩ = some (.bool k)
 frest : W.frozen? ⟨w.heap.size + 1, 0, none⟩ = false
 fok : W.frozen? ⟨w.heap.size + 2, 0, none⟩ = false
structure Keep (w W W' : World) : Prop where
 size : W.heap.size ≤ W'.heap.size
 cell : ∀ b o, b ≠ w.heap.size + 1 → b ≠ w.heap.size + 2 → b < W.heap.size → W'.cell? ⟨b, o, none⟩ = W.cell? ⟨b, o, none⟩
 frozen : ∀ b o, b ≠ w.heap.size + 1 → b ≠ w.heap.size + 2 → b < W.heap.size → W'.frozen? ⟨b, o, none⟩ = W.frozen? ⟨b, o, none⟩
theorem Keep.trans {w a b c : World} (h : Keep w a b) (k : Keep w b c) : Keep w a c :=
 ⟨Nat.le_trans h.size k.size, fun x o h1 h2 h3 => (k.cell x o h1 h2 (Nat.lt_of_lt_of_le h3 h.size)).trans (h.cell x o h1 h2 h3), fun x o h1 h2 h3 => (k.frozen x o h1 h2 (Nat.lt_of_lt_of_le h3 h.size)).trans (h.frozen x o h1 h2 h3)⟩
theorem Keep.ext {w a b : World} (h : Ext a b) : Keep w a b := by
 obtain ⟨q, p⟩ := h.cells
 exact ⟨h.lt, fun x o _ _ h3 => q x o h3, fun x o _ _ h3 => p x o h3⟩
theorem PSt.mono {w W W' : World} {r : ByteArray} {k : Bool} (h : PSt w W r k) (hx : Ext W W') : PSt w W' r k := by
 obtain ⟨q, p⟩ := hx.cells
 have hs := h.size
 exact ⟨h.ext.trans hx, Nat.le_trans h.size hx.lt, by rw [q _ _ (by omega)]; exact h.rest, by rw [q _ _ (by omega)]; exact h.ok, by rw [p _ _ (by omega)]; exact h.frest, by rw [p _ _ (by omega)]; exact h.fok⟩
end
section
open Go Go.RowKit
structure Env (w : World) : Prop where
 tab : Tab w
 syn : ∃ tp p, ∀ W, Ext w W → W.var? Tryz.prog "strconv.ErrSyntax" = some #[.iface tp p]
 rng : ∃ tp p, ∀ W, Ext w W → W.var? Tryz.prog "strconv.ErrRange" = some #[.iface tp p]
theorem Env.ext {w w' : World} (h : Env w) (hx : Ext w w') : Env w' :=
 ⟨h.tab.ext hx, h.syn.imp fun _ h => h.imp fun _ h W hW => h W (hx.trans hW), h.rng.imp fun _ h => h.imp fun _ h W hW => h W (hx.trans hW)⟩
end
end Go.Proofs.YtdbnddmncbjobaaGreatDoor