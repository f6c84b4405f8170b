/- What all walks of this claim share: worlds that grow; labels and citations as plain data. -/
import Derived.WalkKit
import Derived.WalkSpells
import Derived.WalkSmall
import Derived.Below
import Derived.Lib.Hide
import Derived.Test.YtdbnddmncbjobaaGreatDoorProg
import Derived.Maps.AppendAt
import Derived.WalkLawsBesides
import Derived.IntWalk
import Derived.Shelf.Small.Wraps
import Derived.Shelf.Strconv.Atoi
import Derived.Shelf.Strconv.Itoa0
import Derived.Shelf.Strconv.Itoa1
import Derived.Shelf.LaysM
import Derived.Shelf.Strconv.Itoa2
import Derived.Shelf.Strconv.Itoa3
import Derived.Shelf.Strconv.AtoiErrFast
import Derived.Shelf.Strconv.ParseIntEmpty
import Derived.Shelf.Strconv.AtoiFail
import Derived.Shelf.Strconv.Clone
import Derived.Shelf.Strconv.SyntaxError
import Derived.Shelf.LaysC
import Derived.Shelf.Strconv.ToError
import Derived.Shelf.Strconv.Lower
import Derived.Shelf.Strconv.ParseUint10
import Derived.Shelf.Strconv.ParseUint10Empty
import Derived.Shelf.Strconv.ParseUint10Any
import Derived.Shelf.Strconv.ParseInt10
import Derived.Shelf.Strconv.AtoiLong
import Derived.Shelf.Strconv.AtoiInnerAll
import Derived.Shelf.Strconv.RangeError
import Derived.Shelf.Strconv.ToErrorRange
import Derived.Shelf.Strconv.AtoiAll
import Derived.Shelf.Strconv.ErrVarAll
import Derived.Shelf.Strconv.ParseUintEmpty
import Derived.Shelf.Strconv.ParseUint10b64
import Derived.Shelf.Strconv.ParseUint10b32
import Derived.Shelf.Strconv.ParseUint10b16
import Derived.Shelf.Strconv.ParseUint10b8
import Derived.Shelf.Strconv.ParseUint10At
import Derived.Shelf.Strconv.ParseInt10At64
import Derived.Shelf.Strconv.ParseInt10At32
import Derived.Shelf.Strconv.ParseInt10At16
import Derived.Shelf.Strconv.ParseInt10At8
import Derived.Shelf.Strconv.ParseInt10All
import Derived.Shelf.Strings.Search1
import Derived.Shelf.Strings.Search2
import Derived.Shelf.Strings.Cut
import Derived.Shelf.Strings.Shaped
import Derived.Shelf.Bits.Mul64
import Derived.Ground.Names2Prog
import Derived.Shelf.Slices.Clone
import Derived.Lib.ItoaNum
import Derived.Lib.AppendIntMem
import Derived.Lib.ItoaLen
import Derived.Lib.AtoiAll
import Derived.Lib.IndexMore
import Derived.Deep.RegionHeld3
import Derived.Lib.CutLaws
namespace Go.Proofs.YtdbnddmncbjobaaGreatDoor
open Go Go.RowKit

/-- w' is w with new blocks alone: every block that was there is as it was. A name of its own, so that no simp opens it. -/
def Ext (w w' : World) : Prop := Below w.heap.size w w'
theorem Ext.refl (w : World) : Ext w w := Below.refl _ _
theorem Ext.trans {a b c : World} (h : Ext a b) (k : Ext b c) : Ext a c := Below.trans h (Below.mono k h.size)
theorem Ext.alloc {a w : World} (h : Ext a w) (o : Obj) : Ext a (w.alloc o) := Below.alloc h h.size o
theorem Ext.drewN {a w : World} (h : Ext a w) (n : Nat) : Ext a (w.drewN n) := below_drewN h n
theorem Ext.drew {a w : World} (h : Ext a w) : Ext a w.drew := Below.drew h
theorem Ext.lt {a w : World} (h : Ext a w) : a.heap.size ≤ w.heap.size := h.size
theorem Ext.cells {w w1 : World} (hb : Ext w w1) : (∀ b o, b < w.heap.size → w1.cell? ⟨b, o, none⟩ = w.cell? ⟨b, o, none⟩) ∧ (∀ b o, b < w.heap.size → w1.frozen? ⟨b, o, none⟩ = w.frozen? ⟨b, o, none⟩) :=
  ⟨fun b o h => hb.cell (p := ⟨b, o, none⟩) h, fun b o h => hb.frozen (p := ⟨b, o, none⟩) h⟩

/-- A citation as plain data: branch, number, suffix, line. -/
structure Ct where
  br : Int
  nu : Int
  su : Int
  li : Int
def labB (n s : Int) : Bool := decide (1 ≤ n) && (decide (n ≤ 16384) && (decide (0 ≤ s) && decide (s ≤ 16384)))
def labE (n s : Int) : Int := if labB n s then 0 else 5
def citB (c : Ct) : Bool := decide (0 ≤ c.br) && (decide (c.br < 256) && (decide (1 ≤ c.li) && (decide (c.li ≤ 100) && labB c.nu c.su)))

theorem labE_bad {n s : Int} (h : n < 1 ∨ 16384 < n ∨ s < 0 ∨ 16384 < s) : labE n s = 5 := by
  unfold labE labB
  rw [if_neg]
  simp; omega
theorem labE_ok {n s : Int} (h1 : ¬ n < 1) (h2 : ¬ 16384 < n) (h3 : ¬ s < 0) (h4 : ¬ 16384 < s) : labE n s = 0 := by
  unfold labE labB
  rw [if_pos]
  simp; omega
theorem ret_int {a b : Int} (h : a = b) : Ending.returned (.int .i64 a) = .returned (.int .i64 b) := by rw [h]

def LabPost (n s : Int) (w : World) (e : Ending) (w' : World) : Prop := e = .returned (.int .i64 (labE n s)) ∧ Ext w w'
theorem chk_any (n s : Int) (w : World) : Calls Tryz.prog 138 #[.agg #[.int .i64 n, .int .i64 s]] w (LabPost n s w) := by
  by_cases h1 : n < 1
  · have hf := labE_bad (s := s) (.inl h1)
    have HF := Lib.hid hf; clear hf
    go_enter Tryz.func138, Tryz.ntmps138
    go_wp2
    go_ret
    exact ⟨ret_int (by rw [HF.out]), (Ext.refl _).alloc _⟩
  · by_cases h2 : 16384 < n
    · have hf := labE_bad (s := s) (.inr (.inl h2))
      have HF := Lib.hid hf; clear hf
      go_enter Tryz.func138, Tryz.ntmps138
      go_wp2
      go_ret
      exact ⟨ret_int (by rw [HF.out]), (Ext.refl _).alloc _⟩
    · by_cases h3 : s < 0
      · have hf := labE_bad (n := n) (.inr (.inr (.inl h3)))
        have HF := Lib.hid hf; clear hf
        go_enter Tryz.func138, Tryz.ntmps138
        go_wp2
        go_ret
        exact ⟨ret_int (by rw [HF.out]), (Ext.refl _).alloc _⟩
      · by_cases h4 : 16384 < s
        · have hf := labE_bad (n := n) (.inr (.inr (.inr h4)))
          have HF := Lib.hid hf; clear hf
          go_enter Tryz.func138, Tryz.ntmps138
          go_wp2
          go_ret
          exact ⟨ret_int (by rw [HF.out]), (Ext.refl _).alloc _⟩
        · have hf := labE_ok h1 h2 h3 h4
          have HF := Lib.hid hf; clear hf
          go_enter Tryz.func138, Tryz.ntmps138
          go_wp2
          go_ret
          exact ⟨ret_int (by rw [HF.out]), (Ext.refl _).alloc _⟩
end Go.Proofs.YtdbnddmncbjobaaGreatDoor

/- Rows of whatever elements: slices whose cells are known, rows that a call has made itself, append; over any program. -/
namespace Go.Proofs.YtdbnddmncbjobaaGreatDoor
open Go Go.RowKit

theorem own_form {w : World} {base : Nat} {e : TypeId} {size : Nat} {v : Value} {n : Nat} {xs : List Value} (h : w.ownsRow base e size v n xs) :
    ∃ A c, v = .slice A n c ∧ n ≤ c ∧ (A = none ∧ n = 0 ∧ c = 0 ∨ ∃ g, A = some ⟨g, 0, none⟩ ∧ base ≤ g ∧ g < w.heap.size ∧ ∀ j u, xs[j]? = some u → w.cell? ⟨g, j, none⟩ = some u) := by
  rcases h.2 with ⟨rfl, rfl⟩ | ⟨g, cap, cur, rfl, hb, hg, hn, _, _, _⟩
  · exact ⟨none, 0, rfl, Nat.le_refl _, .inl ⟨rfl, rfl, rfl⟩⟩
  · refine ⟨some ⟨g, 0, none⟩, cap, rfl, hn, .inr ⟨g, rfl, hb, lt_of_block hg, fun j u hu => ?_⟩⟩
    have := h.cells (g := g) rfl j u hu
    rwa [Addr.add_lit, Nat.zero_add] at this
/-- append onto a row of the call's own: the source is nil, or its cells are known. -/
theorem run_append_src5 {P : Program} {w : World} {base : Nat} {t e : TypeId} {z : Value} {size bytes : Nat} (ht : P.underlying t = some (.slice e)) (hinfo : (P.info? e).map (fun i => (i.zero, i.size, i.bytes)) = some (some z, size, bytes))
    (hzs : z.cells.size = size) (hsz : 0 < size) {v : Value} {n : Nat} {xs : List Value} (hown : w.ownsRow base e size v n xs) {A : Option Addr} {m c : Nat} {news : List Value} (hl : news.length = m * size)
    (hA : 0 < m → ∃ b off, A = some ⟨b, off, none⟩ ∧ ∀ j u, news[j]? = some u → w.cell? ⟨b, off + j, none⟩ = some u) (h1 : ∀ u ∈ news, u.oneCell' = true)
    (h63 : n + m ≤ maxLen) (hbytes : (n + m) * bytes ≤ 140737488355328) (hbase : base ≤ w.heap.size) :
    ∃ A' c' w', (Builtin.append_ #[t, t] t #[v, .slice A m c]).run P w = .ok (.slice A' (n + m) c') w' ∧ w'.ownsRow base e size (.slice A' (n + m) c') (n + m) (xs ++ news) ∧ (∀ B, B ≤ base → Below B w w') ∧
      (∀ k, k < w.heap.size → (∀ a, v ≠ .slice (some ⟨k, 0, none⟩) n a) → w'.heap[k]? = w.heap[k]?) ∧ ((Value.slice A' (n + m) c').ownBlock = v.ownBlock ∨ (Value.slice A' (n + m) c').ownBlock = some w.heap.size) := by
  obtain ⟨i, hi, hz, hs, hb⟩ := info_parts hinfo
  have fin : ∀ v' w', w'.ownsRow base e size v' (n + m) (xs ++ news) → w.grownBy w' v.ownBlock → (v'.ownBlock = v.ownBlock ∨ v'.ownBlock = some w.heap.size) → (Builtin.append_ #[t, t] t #[v, .slice A m c]).run P w = .ok v' w' →
      ∃ A' c' w', (Builtin.append_ #[t, t] t #[v, .slice A m c]).run P w = .ok (.slice A' (n + m) c') w' ∧ w'.ownsRow base e size (.slice A' (n + m) c') (n + m) (xs ++ news) ∧ (∀ B, B ≤ base → Below B w w') ∧
      (∀ k, k < w.heap.size → (∀ a, v ≠ .slice (some ⟨k, 0, none⟩) n a) → w'.heap[k]? = w.heap[k]?) ∧ ((Value.slice A' (n + m) c').ownBlock = v.ownBlock ∨ (Value.slice A' (n + m) c').ownBlock = some w.heap.size) := by
    intro v' w' h2 h3 h9 h4
    obtain ⟨A', c', rfl, _, _⟩ := own_form h2
    refine ⟨A', c', w', h4, h2, fun B hB => (Below.refl B w).grown h3 (Nat.le_trans hB hbase) (fun k hk => Nat.le_trans hB (hown.lt k hk).1), fun k hk hne => h3.block k hk (fun e => ?_), h9⟩
    rcases hown.2 with ⟨rfl, _⟩ | ⟨g, cap, cur, rfl, _⟩
    · simp [Value.ownBlock] at e
    · simp only [Value.ownBlock, Option.some.injEq] at e
      subst e
      exact hne _ rfl
  by_cases h0 : 0 < m
  · obtain ⟨b, off, rfl, hc⟩ := hA h0
    obtain ⟨v', w', hr, h2, h3, _, h9⟩ := run_append_own_at (P := P) w base t t e i z size bytes ht hi hz hs hb hzs hsz v n xs hown ⟨b, off, none⟩ m c news hl (fun j u hu => by rw [Addr.add_lit]; exact hc j u hu) h1 h63 hbytes hbase
    exact fin v' w' h2 h3 h9 hr
  · obtain rfl : m = 0 := by omega
    obtain rfl : news = [] := List.eq_nil_of_length_eq_zero (by simpa using hl)
    rcases A with _ | ad
    · have hr : (Builtin.append_ #[t, t] t #[v, .slice none 0 c]).run P w = .ok v w := by
        rcases hown.2 with ⟨rfl, rfl⟩ | ⟨g, cap, cur, rfl, _, _, hnc, _⟩
        · simp [Builtin.append_, run_underlying ht, sizeOf, typeInfo, hi, Builtin.lenOf, Builtin.firstCells]
        · simp [Builtin.append_, run_underlying ht, sizeOf, typeInfo, hi, Builtin.lenOf, Builtin.firstCells, hnc, storeCells]
      exact fin v w (by simpa using hown) (World.grownBy.refl w _) (.inl rfl) hr
    · obtain ⟨v', w', hr, h2, h3, _, h9⟩ := run_append_own_at (P := P) w base t t e i z size bytes ht hi hz hs hb hzs hsz v n xs hown ad 0 c [] hl (fun j u hu => by simp at hu) h1 h63 hbytes hbase
      exact fin v' w' h2 h3 h9 hr

/-- append, where its run is known. -/
theorem wpList_append_run {P : Program} {w : World} {ops : Array Oper} {rest : List Oper} {o : Oper} {a : Act} {Q : Exit → Act → World → Prop} {s x : Operand} {t : TypeId} {vs vx v' : Value} {w' : World}
    (hr : (Builtin.append_ #[t, t] t #[vs, vx]).run P w = .ok v' w') (hgd : o.guard = none)
    (ho : o.op = .call { callee := .builtin .append, args := #[s, x], argTypes := #[t, t] }) (hty : o.type = t) (hs : a.eval s = vs) (hx : a.eval x = vx)
    (h : wpList P ops Q rest (a.put o.dst v') w') : wpList P ops Q (o :: rest) a w := by
  refine wpList_plain hgd fun _ hK => ?_
  unfold Oper.wp execOp
  simp only [ho, hty, resolve, invoke, builtin, Sem.run_bind, Sem.run_pure, Result.andThen_ok, List.map_toArray, List.map_cons, List.map_nil, hs, hx, hr]
  exact hK _ _ h

section
variable {α : Type} (cf : α → List Value) (sz : Nat)
def gcells (l : List α) : List Value := l.flatMap cf
variable {cf sz}
theorem gcells_len (hcf : ∀ a, (cf a).length = sz) (l : List α) : (gcells cf l).length = l.length * sz := by
  induction l with
  | nil => simp [gcells]
  | cons v l ih => simp only [gcells, List.flatMap_cons, List.length_append] at ih ⊢; rw [ih, hcf, List.length_cons, Nat.succ_mul]; omega
theorem gcells_at (hcf : ∀ a, (cf a).length = sz) (l : List α) : ∀ (i : Nat) (a : α), l[i]? = some a → ∀ j, j < sz → (gcells cf l)[i * sz + j]? = (cf a)[j]? := by
  induction l with
  | nil => intro i a h; simp at h
  | cons v l ih =>
    intro i a h j hj
    simp only [gcells, List.flatMap_cons]
    cases i with
    | zero =>
      obtain rfl : v = a := by simpa using h
      rw [List.getElem?_append_left (by rw [hcf]; omega)]; simp
    | succ i =>
      rw [List.getElem?_append_right (by rw [hcf, Nat.succ_mul]; omega)]
      have e : (i + 1) * sz + j - (cf v).length = i * sz + j := by rw [hcf, Nat.succ_mul]; omega
      rw [e]
      exact ih i a (by simpa using h) j hj
theorem gcells_append (a b : List α) : gcells cf (a ++ b) = gcells cf a ++ gcells cf b := by simp [gcells]
theorem gcells_one (h1 : ∀ a, ∀ u ∈ cf a, u.oneCell' = true) (l : List α) : ∀ u ∈ gcells cf l, u.oneCell' = true := by
  intro u hu
  obtain ⟨v, _, hv⟩ := List.mem_flatMap.1 hu
  exact h1 v u hv
variable (cf sz)
/-- The elements l lie, m of them, behind the address A. -/
def SL (W : World) (A : Option Addr) (m : Nat) (l : List α) : Prop :=
  m = l.length ∧ (0 < m → ∃ b off, A = some ⟨b, off, none⟩ ∧ b < W.heap.size ∧ ∀ i a, l[i]? = some a → ∀ j u, (cf a)[j]? = some u → W.cell? ⟨b, off + i * sz + j, none⟩ = some u)
/-- The slice value v holds the elements l in a row of its own, in a block from base on. -/
def OL (w : World) (base : Nat) (e : TypeId) (v : Value) (l : List α) : Prop := w.ownsRow base e sz v l.length (gcells cf l)
variable {cf sz}
theorem SL.ext {W W' : World} {A : Option Addr} {m : Nat} {l : List α} (h : SL cf sz W A m l) (hx : Ext W W') : SL cf sz W' A m l := by
  refine ⟨h.1, fun h0 => ?_⟩
  obtain ⟨b, off, rfl, hb, hc⟩ := h.2 h0
  obtain ⟨q, _⟩ := hx.cells
  exact ⟨b, off, rfl, Nat.lt_of_lt_of_le hb hx.lt, fun i a hi j u hu => by rw [q _ _ hb]; exact hc i a hi j u hu⟩
theorem SL.nil (W : World) : SL cf sz W none 0 ([] : List α) := ⟨rfl, fun h => absurd h (by omega)⟩
theorem OL.nil (w : World) (base : Nat) (e : TypeId) : OL cf sz w base e (.slice none 0 0) ([] : List α) := World.ownsRow_nil w base e sz
theorem OL.form (hcf : ∀ a, (cf a).length = sz) {w : World} {base : Nat} {e : TypeId} {v : Value} {l : List α} (h : OL cf sz w base e v l) :
    ∃ A c, v = .slice A l.length c ∧ l.length ≤ c ∧ SL cf sz w A l.length l := by
  obtain ⟨A, c, rfl, hc, hh⟩ := own_form h
  refine ⟨A, c, rfl, hc, rfl, fun h0 => ?_⟩
  rcases hh with ⟨_, hn, _⟩ | ⟨g, rfl, hb, hg, hx⟩
  · omega
  · refine ⟨g, 0, rfl, hg, fun i a hi j u hu => ?_⟩
    have hj : j < sz := by rw [← hcf a]; exact (List.getElem?_eq_some_iff.1 hu).1
    have := hx (i * sz + j) u ((gcells_at hcf l i a hi j hj).trans hu)
    simpa [Nat.add_assoc] using this
theorem OL.ext {w w' : World} {base : Nat} {e : TypeId} {v : Value} {l : List α} (h : OL cf sz w base e v l) (hx : Ext w w') : OL cf sz w' base e v l := by
  refine ⟨h.1, ?_⟩
  rcases h.2 with h2 | ⟨g, cap, cur, h1, h2, h3, h4⟩
  · exact .inl h2
  · exact .inr ⟨g, cap, cur, h1, h2, by rw [hx.block g (lt_of_block h3)]; exact h3, h4⟩
theorem OL.append {P : Program} (hcf : ∀ a, (cf a).length = sz) (h1c : ∀ a, ∀ u ∈ cf a, u.oneCell' = true) (hsz : 0 < sz) {t e : TypeId} {z : Value} {bytes : Nat} (ht : P.underlying t = some (.slice e))
    (hinfo : (P.info? e).map (fun i => (i.zero, i.size, i.bytes)) = some (some z, sz, bytes)) (hzs : z.cells.size = sz) (hby : bytes ≤ 1000)
    {w : World} {base : Nat} {v : Value} {l : List α} (h : OL cf sz w base e v l) {A : Option Addr} {m : Nat} {l' : List α} (hs : SL cf sz w A m l') (c : Nat) (hm : l.length + m ≤ 100000000) (hbase : base ≤ w.heap.size) :
    ∃ A' c' w', (Builtin.append_ #[t, t] t #[v, .slice A m c]).run P w = .ok (.slice A' (l.length + m) c') w' ∧ OL cf sz w' base e (.slice A' (l.length + m) c') (l ++ l') ∧ (∀ B, B ≤ base → Below B w w') ∧
      (∀ k, k < w.heap.size → (∀ a, v ≠ .slice (some ⟨k, 0, none⟩) l.length a) → w'.heap[k]? = w.heap[k]?) := by
  obtain ⟨rfl, hs⟩ := hs
  obtain ⟨A', c', w', h1, h2, h3, h4, _⟩ := run_append_src5 (P := P) (t := t) ht hinfo hzs hsz h (A := A) (m := l'.length) (c := c) (news := gcells cf l') (gcells_len hcf l')
    (fun h0 => by
      obtain ⟨b, off, rfl, _, hc⟩ := hs h0
      refine ⟨b, off, rfl, fun j u hu => ?_⟩
      have hj : j < l'.length * sz := by rw [← gcells_len hcf]; exact (List.getElem?_eq_some_iff.1 hu).1
      have hjs : j / sz < l'.length := Nat.div_lt_of_lt_mul (by rw [Nat.mul_comm]; exact hj)
      have e : j = j / sz * sz + j % sz := by rw [Nat.mul_comm]; exact (Nat.div_add_mod j sz).symm
      have hmod : j % sz < sz := Nat.mod_lt _ hsz
      rw [e, gcells_at hcf l' (j / sz) _ (List.getElem?_eq_getElem hjs) (j % sz) hmod] at hu
      have := hc (j / sz) _ (List.getElem?_eq_getElem hjs) (j % sz) u hu
      rw [Nat.add_assoc, ← e] at this
      exact this)
    (gcells_one h1c l') (by simp only [maxLen]; omega) (Nat.le_trans (Nat.mul_le_mul hm hby) (by omega)) hbase
  refine ⟨A', c', w', h1, ?_, h3, h4⟩
  unfold OL
  rw [gcells_append, List.length_append]
  exact h2
theorem SL.one (w : World) (a : α) (cs : Array Value) (hcs : cs.toList = cf a) (t : TypeId) : SL cf sz (w.alloc (.cells cs t)) (some ⟨w.heap.size, 0, none⟩) 1 [a] := by
  refine ⟨rfl, fun _ => ⟨w.heap.size, 0, rfl, by simp, fun i a' hi j u hu => ?_⟩⟩
  obtain rfl : i = 0 := by
    have := (List.getElem?_eq_some_iff.1 hi).1
    simp at this; exact this
  obtain rfl : a = a' := by simpa using hi
  rw [cell_of_row _ w.heap.size _ _ t (0, 0) (heap_alloc_new w _)]
  rw [← hcs] at hu
  simpa using hu
end
end Go.Proofs.YtdbnddmncbjobaaGreatDoor

/- Blocks that stay, rows in them. -/
namespace Go.Proofs.YtdbnddmncbjobaaGreatDoor
open Go Go.RowKit

theorem Ext.setCell {a w : World} (h : Ext a w) {p : Addr} (hp : a.heap.size ≤ p.block) (u : Value) : Ext a (w.setCell p u) := Below.setCell h hp u
theorem SL.blocks {α : Type} {cf : α → List Value} {sz : Nat} {W W' : World} {A : Option Addr} {m : Nat} {l : List α} (h : SL cf sz W A m l) (hk : ∀ x, A = some x → x.block < W.heap.size → W'.heap[x.block]? = W.heap[x.block]?) : SL cf sz W' A m l := by
  refine ⟨h.1, fun h0 => ?_⟩
  obtain ⟨b, off, e, hb, hc⟩ := h.2 h0
  have he := hk _ e hb
  simp only at he
  refine ⟨b, off, e, ?_, fun i x hx j u hu => ?_⟩
  · have h5 : W.heap[b]? ≠ none := by rw [Array.getElem?_eq_getElem hb]; simp
    rw [← he] at h5
    by_cases h6 : b < W'.heap.size
    · exact h6
    · exact absurd (Array.getElem?_eq_none (by omega)) h5
  · rw [World.cell?_of_block (a := ⟨b, _, none⟩) he]; exact hc i x hx j u hu
/-- Nothing but the block b has turned. -/
structure Mv (b : Nat) (W W' : World) : Prop where
  size : W.heap.size ≤ W'.heap.size
  keep : ∀ k, k ≠ b → k < W.heap.size → W'.heap[k]? = W.heap[k]?
  ext : ∀ w0, w0.heap.size ≤ b → Ext w0 W → Ext w0 W'
theorem Mv.refl (b : Nat) (W : World) : Mv b W W := ⟨Nat.le_refl _, fun _ _ _ => rfl, fun _ _ h => h⟩
theorem Mv.trans {b : Nat} {W W' W'' : World} (h : Mv b W W') (k : Mv b W' W'') : Mv b W W'' :=
  ⟨Nat.le_trans h.size k.size, fun j hj hl => (k.keep j hj (Nat.lt_of_lt_of_le hl h.size)).trans (h.keep j hj hl), fun w0 h0 hx => k.ext w0 h0 (h.ext w0 h0 hx)⟩
theorem Mv.of_ext {b : Nat} {W W' : World} (h : Ext W W') : Mv b W W' := ⟨h.lt, fun k _ hk => h.block k hk, fun _ _ hx => hx.trans h⟩
theorem Mv.set {W : World} {b i : Nat} (u : Value) : Mv b W (W.setCell ⟨b, i, none⟩ u) :=
  ⟨by simp, fun k hk _ => heap_setCell_other W ⟨b, i, none⟩ k u hk, fun w0 h0 hx => hx.setCell (p := ⟨b, i, none⟩) h0 u⟩
theorem Mv.setNew {b : Nat} {W W' : World} (h : Mv b W W') {p : Addr} (hp : W.heap.size ≤ p.block) (u : Value) : Mv b W (W'.setCell p u) :=
  ⟨by simpa using h.size, fun k h1 h2 => (heap_setCell_other W' p k u (by omega)).trans (h.keep k h1 h2), fun w0 h1 h2 => (h.ext w0 h1 h2).setCell (p := p) (Nat.le_trans h2.lt hp) u⟩
theorem ownBlock_of {v : Value} {k n : Nat} (h : v.ownBlock ≠ some k) (a : Nat) : v ≠ .slice (some ⟨k, 0, none⟩) n a := fun e => h (by rw [e]; rfl)
theorem OL.keepB {α : Type} {cf : α → List Value} {sz : Nat} {w w' : World} {B : Nat} {e : TypeId} {v : Value} {l : List α} (h : OL cf sz w B e v l) (hk : ∀ k, v.ownBlock = some k → w'.heap[k]? = w.heap[k]?) : OL cf sz w' B e v l := by
  refine ⟨h.1, ?_⟩
  rcases h.2 with h2 | ⟨g, cap, cur, h1, h2, h3, h4⟩
  · exact .inl h2
  · exact .inr ⟨g, cap, cur, h1, h2, by rw [hk g (by rw [h1]; rfl)]; exact h3, h4⟩
end Go.Proofs.YtdbnddmncbjobaaGreatDoor

/- The contracts of cite.valid, the reference's Valid, rollbookref01.Around. -/
namespace Go.Proofs.YtdbnddmncbjobaaGreatDoor
open Go Go.RowKit

def Ct.val (c : Ct) : Value := .agg #[.int .i64 c.br, .int .i64 c.nu, .int .i64 c.su, .int .i64 c.li]
theorem ret_bool {a b : Bool} (h : a = b) : Ending.returned (.bool a) = .returned (.bool b) := by rw [h]
theorem labE_eq (n s : Int) : labE n s = if labB n s then 0 else 5 := rfl
def BoolPost (b : Bool) (w : World) (e : Ending) (w' : World) : Prop := e = .returned (.bool b) ∧ Ext w w'
theorem citB_no {c : Ct} (h : c.br < 0 ∨ 256 ≤ c.br ∨ c.li < 1 ∨ 100 < c.li ∨ labB c.nu c.su = false) : citB c = false := by
  unfold citB
  rcases h with h | h | h | h | h
  · simp [show ¬ 0 ≤ c.br by omega]
  · simp [show ¬ c.br < 256 by omega]
  · simp [show ¬ 1 ≤ c.li by omega]
  · simp [show ¬ c.li ≤ 100 by omega]
  · simp [h]
theorem citB_yes {c : Ct} (h1 : 0 ≤ c.br) (h2 : c.br < 256) (h3 : 1 ≤ c.li) (h4 : c.li ≤ 100) (h5 : labB c.nu c.su = true) : citB c = true := by
  unfold citB; simp [h1, h2, h3, h4, h5]

set_option maxRecDepth 100000 in
theorem valid_any (c : Ct) (w : World) : Calls Tryz.prog 104 #[c.val] w (BoolPost (citB c) w) := by
  unfold Ct.val
  by_cases h1 : 0 ≤ c.br
  · by_cases h2 : c.br < 256
    · by_cases h3 : 1 ≤ c.li
      · by_cases h4 : c.li ≤ 100
        · cases hl : labB c.nu c.su
          · have hf := citB_no (c := c) (.inr (.inr (.inr (.inr hl))))
            have HF := Lib.hid hf
            have HE := Lib.hid (show labE c.nu c.su = 5 by rw [labE_eq, hl]; rfl)
            clear hf hl
            go_enter Tryz.func104, Tryz.ntmps104
            go_wp2_with (first | (go_at_call 138; refine (chk_any c.nu c.su _).mono ?_; rintro e w1 ⟨rfl, hx⟩; rw [HE.out]))
            go_ret
            exact ⟨ret_bool (by rw [HF.out]), ((Ext.refl _).alloc _).trans hx⟩
          · have hf := citB_yes h1 h2 h3 h4 hl
            have HF := Lib.hid hf
            have HE := Lib.hid (show labE c.nu c.su = 0 by rw [labE_eq, hl]; rfl)
            clear hf hl
            go_enter Tryz.func104, Tryz.ntmps104
            go_wp2_with (first | (go_at_call 138; refine (chk_any c.nu c.su _).mono ?_; rintro e w1 ⟨rfl, hx⟩; rw [HE.out]))
            go_ret
            exact ⟨ret_bool (by rw [HF.out]), ((Ext.refl _).alloc _).trans hx⟩
        · have hf := citB_no (c := c) (.inr (.inr (.inr (.inl (by omega)))))
          have HF := Lib.hid hf; clear hf
          have hd : decide (c.li ≤ 100) = false := decide_eq_false h4
          go_enter Tryz.func104, Tryz.ntmps104
          go_wp2
          go_ret
          exact ⟨ret_bool (by rw [HF.out]), (Ext.refl _).alloc _⟩
      · have hf := citB_no (c := c) (.inr (.inr (.inl (by omega))))
        have HF := Lib.hid hf; clear hf
        have hd : decide (1 ≤ c.li) = false := decide_eq_false h3
        go_enter Tryz.func104, Tryz.ntmps104
        go_wp2
        go_ret
        exact ⟨ret_bool (by rw [HF.out]), (Ext.refl _).alloc _⟩
    · have hf := citB_no (c := c) (.inr (.inl (by omega)))
      have HF := Lib.hid hf; clear hf
      have hd : decide (c.br < 256) = false := decide_eq_false h2
      go_enter Tryz.func104, Tryz.ntmps104
      go_wp2
      go_ret
      exact ⟨ret_bool (by rw [HF.out]), (Ext.refl _).alloc _⟩
  · have hf := citB_no (c := c) (.inl (by omega))
    have HF := Lib.hid hf; clear hf
    have hd : decide (0 ≤ c.br) = false := decide_eq_false h1
    go_enter Tryz.func104, Tryz.ntmps104
    go_wp2
    go_ret
    exact ⟨ret_bool (by rw [HF.out]), (Ext.refl _).alloc _⟩

theorem neg_tmod_inC (n m : Int) (h : n < 0) (h3 : 1 ≤ m) : (n + 1).tmod m ≤ 0 ∧ -(n + 1).tmod m < m := by
  have e : -((n + 1).tmod m) = (-(n + 1)) % m := by rw [← Int.neg_tmod, Int.tmod_eq_emod_of_nonneg (by omega)]
  have hb1 := Int.emod_nonneg (-(n + 1)) (show m ≠ 0 by omega)
  have hb2 := Int.emod_lt_of_pos (-(n + 1)) (show 0 < m by omega)
  omega
end Go.Proofs.YtdbnddmncbjobaaGreatDoor

/- The contract of the reference's Letters. -/
namespace Go.Proofs.YtdbnddmncbjobaaGreatDoor
open Go Go.RowKit

/-- The letters of a suffix. -/
def lets (u : Nat) : List UInt8 := if _h : u = 0 then [] else lets ((u - 1) / 26) ++ [UInt8.ofNat (97 + (u - 1) % 26)]
termination_by u
decreasing_by omega
theorem lets_zero : lets 0 = [] := by rw [lets, dif_pos rfl]
theorem lets_pos {u : Nat} (h : ¬ u = 0) : lets u = lets ((u - 1) / 26) ++ [UInt8.ofNat (97 + (u - 1) % 26)] := by rw [lets, dif_neg h]
def LetRel (n : Nat) (s k : Value) : Prop := ∃ (u : Nat) (t : ByteArray), u ≤ n ∧ k = .int .i64 u ∧ s = .string t ∧ t.size ≤ n - u ∧ lets u ++ t.data.toList = lets n
def letM (k : Value) : Nat := match k with | .int _ z => z.toNat | _ => 0
theorem let_done {n : Nat} {t : ByteArray} (h : lets 0 ++ t.data.toList = lets n) : t = ⟨(lets n).toArray⟩ := by
  rw [lets_zero, List.nil_append] at h
  rw [← h]
theorem let_step {n u : Nat} {x t : ByteArray} (hu : ¬ u = 0) (h : lets u ++ t.data.toList = lets n) (hx : x.data.toList = [UInt8.ofNat (97 + (u - 1) % 26)]) : lets ((u - 1) / 26) ++ (x ++ t).data.toList = lets n := by
  rw [ByteArray.data_append, Array.toList_append, hx, ← h, lets_pos hu]
  simp
theorem let_size {n u : Nat} {x t : ByteArray} (hu : ¬ u = 0) (hn : u ≤ n) (h : t.size ≤ n - u) (hx : x.data.toList = [UInt8.ofNat (97 + (u - 1) % 26)]) : (x ++ t).size ≤ n - (u - 1) / 26 := by
  have e : x.size = 1 := by have := congrArg List.length hx; simpa using this
  rw [ByteArray.size_append, e]
  omega

end Go.Proofs.YtdbnddmncbjobaaGreatDoor

/-
  DERIVED: THE SHELF's CONTRACTS AT THIS DUMP, IN PLAIN WORDS (tools/lay-plain.mjs out of 'TryzShelf.lean', which tools/lay-shelf.mjs wrote): THE SAME DECLARATIONS UNDER THE SAME NAMES: 'import', 'namespace', 'open', 'def', 'theorem' AND NOTHING ELSE: no command of the shelf's: FOR A HAND-IN. Each laying: the table of numbers ('.._ren') and one theorem, a field a fact of the dump's own or the kernel's comparison; each contract: ONE APPLICATION.
-/
namespace Go.Proofs
open Go.Shelf
def Tryz.laysM171_ren : Go.Shelf.Ren := ⟨fun | 171 => 102 | 243 => 137 | 246 => 157 | 283 => 197 | 284 => 198 | 285 => 199 | 286 => 200 | 129 => 167 | 317 => 228 | 318 => 229 | 319 => 230 | 320 => 231 | 337 => 244 | 338 => 245 | n => n, fun | 3 => 3 | 9 => 9 | 2 => 2 | 4 => 4 | 171 => 237 | 0 => 0 | 53 => 214 | 37 => 198 | 5 => 5 | 173 => 239 | 212 => 267 | 51 => 182 | 20 => 20 | 213 => 268 | 46 => 174 | 232 => 282 | 233 => 283 | n => n, fun | 17 => 3 | 18 => 5 | 19 => 6 | n => n⟩
theorem Tryz.laysM171 : Go.Proofs.LaysM.n171 Tryz.prog Tryz.laysM171_ren := {
  mixed := by kernel_rfl
  f129 := Tryz.func167.trans (congrArg some (by kernel_rfl))
  f171 := Tryz.func102.trans (congrArg some (by kernel_rfl))
  f243 := Tryz.func137.trans (congrArg some (by kernel_rfl))
  f246 := Tryz.func157.trans (congrArg some (by kernel_rfl))
  f283 := Tryz.func197.trans (congrArg some (by kernel_rfl))
  f284 := Tryz.func198.trans (congrArg some (by kernel_rfl))
  f285 := Tryz.func199.trans (congrArg some (by kernel_rfl))
  f286 := Tryz.func200.trans (congrArg some (by kernel_rfl))
  f317 := Tryz.func228.trans (congrArg some (by kernel_rfl))
  f318 := Tryz.func229.trans (congrArg some (by kernel_rfl))
  f319 := Tryz.func230.trans (congrArg some (by kernel_rfl))
  f320 := Tryz.func231.trans (congrArg some (by kernel_rfl))
  f337 := Tryz.func244.trans (congrArg some (by kernel_rfl))
  f338 := Tryz.func245.trans (congrArg some (by kernel_rfl))
  t0 := Tryz.underlying0
  a0 := Tryz.isAgg0
  z0 := Tryz.sizeOf0
  v0 := Tryz.zeroValue0
  t2 := Tryz.underlying2
  a2 := Tryz.isAgg2
  z2 := Tryz.sizeOf2
  v2 := Tryz.zeroValue2
  t3 := Tryz.underlying3
  a3 := Tryz.isAgg3
  z3 := Tryz.sizeOf3
  v3 := Tryz.zeroValue3
  t4 := Tryz.underlying4
  a4 := Tryz.isAgg4
  z4 := Tryz.sizeOf4
  v4 := Tryz.zeroValue4
  t5 := Tryz.underlying5
  a5 := Tryz.isAgg5
  z5 := Tryz.sizeOf5
  v5 := Tryz.zeroValue5
  t9 := Tryz.underlying9
  a9 := Tryz.isAgg9
  z9 := Tryz.sizeOf9
  v9 := Tryz.zeroValue9
  t20 := Tryz.underlying20
  a20 := Tryz.isAgg20
  z20 := Tryz.sizeOf20
  v20 := Tryz.zeroValue20
  t37 := Tryz.underlying198
  a37 := Tryz.isAgg198
  z37 := Tryz.sizeOf198
  v37 := Tryz.zeroValue198
  t46 := Tryz.underlying174
  a46 := Tryz.isAgg174
  z46 := Tryz.sizeOf174
  v46 := Tryz.zeroValue174
  t51 := Tryz.underlying182
  a51 := Tryz.isAgg182
  z51 := Tryz.sizeOf182
  v51 := Tryz.zeroValue182
  t53 := Tryz.underlying214
  a53 := Tryz.isAgg214
  z53 := Tryz.sizeOf214
  v53 := Tryz.zeroValue214
  t171 := Tryz.underlying237
  a171 := Tryz.isAgg237
  z171 := Tryz.sizeOf237
  v171 := Tryz.zeroValue237
  t173 := Tryz.underlying239
  a173 := Tryz.isAgg239
  z173 := Tryz.sizeOf239
  v173 := Tryz.zeroValue239
  t212 := Tryz.underlying267
  a212 := Tryz.isAgg267
  z212 := Tryz.sizeOf267
  v212 := Tryz.zeroValue267
  t213 := Tryz.underlying268
  a213 := Tryz.isAgg268
  z213 := Tryz.sizeOf268
  t232 := Tryz.underlying282
  a232 := Tryz.isAgg282
  z232 := Tryz.sizeOf282
  v232 := Tryz.zeroValue282
  t233 := Tryz.underlying283
  a233 := Tryz.isAgg283
  z233 := Tryz.sizeOf283
  v233 := Tryz.zeroValue283
  g17 := by kernel_rfl
  g18 := by kernel_rfl
  g19 := by kernel_rfl
  i0 := by kernel_rfl
  i2 := by kernel_rfl
  i3 := by kernel_rfl
  i4 := by kernel_rfl
  i5 := by kernel_rfl
  i9 := by kernel_rfl
  i20 := by kernel_rfl
  i37 := by kernel_rfl
  i46 := by kernel_rfl
  i51 := by kernel_rfl
  i53 := by kernel_rfl
  i171 := by kernel_rfl
  i173 := by kernel_rfl
  i212 := by kernel_rfl
  i232 := by kernel_rfl
  i233 := by kernel_rfl
  m17 := by kernel_rfl
  m18 := by kernel_rfl
  m19 := by kernel_rfl }
open Go.RowKit Go.Sort Go.Lib in
/-- strconv.Itoa: "Itoa is equivalent to FormatInt(int64(i), 10).": i's DECIMAL NUMERAL ('Lib.itoa': a '-' where i is negative, then the digits), FOR EVERY int. The world behind the call: the world before it, new blocks behind the heap (the library's 'var a [24]byte'), draws. (LAID: no walk: one application.) -/
theorem Tryz.strconv_Itoa (n : Int) (h0 : -9223372036854775808 ≤ n) (h1 : n ≤ 9223372036854775807) (w : World) (htab : Lib.TabIs Tryz.prog w "internal/strconv.uint64pow10" .u64 Lib.pow10Tab) :
    Calls Tryz.prog 102 #[.int .i64 n] w fun e w' => e = .returned (.string ⟨(Lib.itoa n).toArray⟩) ∧ ∃ k os, w' = grow (w.drewN k) os := Any.strconv_Itoa Tryz.laysM171 n h0 h1 w htab
def Tryz.laysC172_ren : Go.Shelf.Ren := ⟨fun | 172 => 101 | 244 => 135 | 245 => 136 | 247 => 152 | 279 => 153 | 280 => 154 | 281 => 155 | 282 => 156 | 287 => 194 | 316 => 195 | 171 => 102 | 205 => 196 | 321 => 226 | 322 => 227 | 243 => 137 | 246 => 157 | 283 => 197 | 284 => 198 | 285 => 199 | 286 => 200 | 129 => 167 | 317 => 228 | 318 => 229 | 319 => 230 | 320 => 231 | 337 => 244 | 338 => 245 | n => n, fun | 9 => 9 | 3 => 3 | 75 => 150 | 76 => 151 | 4 => 4 | 5 => 5 | 167 => 197 | 37 => 198 | 0 => 0 | 85 => 199 | 2 => 2 | 168 => 201 | 53 => 214 | 175 => 231 | 46 => 174 | 210 => 235 | 127 => 262 | 145 => 265 | 143 => 263 | 21 => 21 | 171 => 237 | 173 => 239 | 212 => 267 | 51 => 182 | 20 => 20 | 213 => 268 | 232 => 282 | 233 => 283 | 80 => 148 | n => n, fun | 15 => 1 | 16 => 2 | 17 => 3 | 18 => 5 | 19 => 6 | n => n⟩
theorem Tryz.laysC172 : Go.Proofs.LaysC.n172 Tryz.prog Tryz.laysC172_ren := {
  mixed := by kernel_rfl
  f129 := Tryz.func167.trans (congrArg some (by kernel_rfl))
  f171 := Tryz.func102.trans (congrArg some (by kernel_rfl))
  f172 := Tryz.func101.trans (congrArg some (by kernel_rfl))
  f205 := Tryz.func196.trans (congrArg some (by kernel_rfl))
  f243 := Tryz.func137.trans (congrArg some (by kernel_rfl))
  f244 := Tryz.func135.trans (congrArg some (by kernel_rfl))
  f245 := Tryz.func136.trans (congrArg some (by kernel_rfl))
  f246 := Tryz.func157.trans (congrArg some (by kernel_rfl))
  f247 := Tryz.func152.trans (congrArg some (by kernel_rfl))
  f279 := Tryz.func153.trans (congrArg some (by kernel_rfl))
  f280 := Tryz.func154.trans (congrArg some (by kernel_rfl))
  f281 := Tryz.func155.trans (congrArg some (by kernel_rfl))
  f282 := Tryz.func156.trans (congrArg some (by kernel_rfl))
  f283 := Tryz.func197.trans (congrArg some (by kernel_rfl))
  f284 := Tryz.func198.trans (congrArg some (by kernel_rfl))
  f285 := Tryz.func199.trans (congrArg some (by kernel_rfl))
  f286 := Tryz.func200.trans (congrArg some (by kernel_rfl))
  f287 := Tryz.func194.trans (congrArg some (by kernel_rfl))
  f316 := Tryz.func195.trans (congrArg some (by kernel_rfl))
  f317 := Tryz.func228.trans (congrArg some (by kernel_rfl))
  f318 := Tryz.func229.trans (congrArg some (by kernel_rfl))
  f319 := Tryz.func230.trans (congrArg some (by kernel_rfl))
  f320 := Tryz.func231.trans (congrArg some (by kernel_rfl))
  f321 := Tryz.func226.trans (congrArg some (by kernel_rfl))
  f322 := Tryz.func227.trans (congrArg some (by kernel_rfl))
  f337 := Tryz.func244.trans (congrArg some (by kernel_rfl))
  f338 := Tryz.func245.trans (congrArg some (by kernel_rfl))
  t0 := Tryz.underlying0
  a0 := Tryz.isAgg0
  z0 := Tryz.sizeOf0
  v0 := Tryz.zeroValue0
  t2 := Tryz.underlying2
  a2 := Tryz.isAgg2
  z2 := Tryz.sizeOf2
  v2 := Tryz.zeroValue2
  t3 := Tryz.underlying3
  a3 := Tryz.isAgg3
  z3 := Tryz.sizeOf3
  v3 := Tryz.zeroValue3
  t4 := Tryz.underlying4
  a4 := Tryz.isAgg4
  z4 := Tryz.sizeOf4
  v4 := Tryz.zeroValue4
  t5 := Tryz.underlying5
  a5 := Tryz.isAgg5
  z5 := Tryz.sizeOf5
  v5 := Tryz.zeroValue5
  t9 := Tryz.underlying9
  a9 := Tryz.isAgg9
  z9 := Tryz.sizeOf9
  v9 := Tryz.zeroValue9
  t20 := Tryz.underlying20
  a20 := Tryz.isAgg20
  z20 := Tryz.sizeOf20
  v20 := Tryz.zeroValue20
  t21 := Tryz.underlying21
  a21 := Tryz.isAgg21
  z21 := Tryz.sizeOf21
  v21 := Tryz.zeroValue21
  t37 := Tryz.underlying198
  a37 := Tryz.isAgg198
  z37 := Tryz.sizeOf198
  v37 := Tryz.zeroValue198
  t46 := Tryz.underlying174
  a46 := Tryz.isAgg174
  z46 := Tryz.sizeOf174
  v46 := Tryz.zeroValue174
  t51 := Tryz.underlying182
  a51 := Tryz.isAgg182
  z51 := Tryz.sizeOf182
  v51 := Tryz.zeroValue182
  t53 := Tryz.underlying214
  a53 := Tryz.isAgg214
  z53 := Tryz.sizeOf214
  v53 := Tryz.zeroValue214
  t75 := Tryz.underlying150
  a75 := Tryz.isAgg150
  z75 := Tryz.sizeOf150
  v75 := Tryz.zeroValue150
  t76 := Tryz.underlying151
  a76 := Tryz.isAgg151
  z76 := Tryz.sizeOf151
  v76 := Tryz.zeroValue151
  t85 := Tryz.underlying199
  a85 := Tryz.isAgg199
  z85 := Tryz.sizeOf199
  v85 := Tryz.zeroValue199
  t127 := Tryz.underlying262
  a127 := Tryz.isAgg262
  z127 := Tryz.sizeOf262
  v127 := Tryz.zeroValue262
  t143 := Tryz.underlying263
  a143 := Tryz.isAgg263
  z143 := Tryz.sizeOf263
  v143 := Tryz.zeroValue263
  t145 := Tryz.underlying265
  a145 := Tryz.isAgg265
  z145 := Tryz.sizeOf265
  v145 := Tryz.zeroValue265
  t167 := Tryz.underlying197
  a167 := Tryz.isAgg197
  z167 := Tryz.sizeOf197
  v167 := Tryz.zeroValue197
  t168 := Tryz.underlying201
  a168 := Tryz.isAgg201
  z168 := Tryz.sizeOf201
  v168 := Tryz.zeroValue201
  t171 := Tryz.underlying237
  a171 := Tryz.isAgg237
  z171 := Tryz.sizeOf237
  v171 := Tryz.zeroValue237
  t173 := Tryz.underlying239
  a173 := Tryz.isAgg239
  z173 := Tryz.sizeOf239
  v173 := Tryz.zeroValue239
  t175 := Tryz.underlying231
  a175 := Tryz.isAgg231
  z175 := Tryz.sizeOf231
  v175 := Tryz.zeroValue231
  t210 := Tryz.underlying235
  a210 := Tryz.isAgg235
  z210 := Tryz.sizeOf235
  v210 := Tryz.zeroValue235
  t212 := Tryz.underlying267
  a212 := Tryz.isAgg267
  z212 := Tryz.sizeOf267
  v212 := Tryz.zeroValue267
  t213 := Tryz.underlying268
  a213 := Tryz.isAgg268
  z213 := Tryz.sizeOf268
  t232 := Tryz.underlying282
  a232 := Tryz.isAgg282
  z232 := Tryz.sizeOf282
  v232 := Tryz.zeroValue282
  t233 := Tryz.underlying283
  a233 := Tryz.isAgg283
  z233 := Tryz.sizeOf283
  v233 := Tryz.zeroValue283
  g15 := by kernel_rfl
  g16 := by kernel_rfl
  g17 := by kernel_rfl
  g18 := by kernel_rfl
  g19 := by kernel_rfl
  t80 := Tryz.underlying148
  a80 := Tryz.isAgg148
  z80 := Tryz.sizeOf148
  v80 := Tryz.zeroValue148
  i0 := by kernel_rfl
  i2 := by kernel_rfl
  i3 := by kernel_rfl
  i4 := by kernel_rfl
  i5 := by kernel_rfl
  i9 := by kernel_rfl
  i20 := by kernel_rfl
  i21 := by kernel_rfl
  i37 := by kernel_rfl
  i46 := by kernel_rfl
  i51 := by kernel_rfl
  i53 := by kernel_rfl
  i75 := by kernel_rfl
  i76 := by kernel_rfl
  i80 := by kernel_rfl
  i85 := by kernel_rfl
  i127 := by kernel_rfl
  i143 := by kernel_rfl
  i145 := by kernel_rfl
  i167 := by kernel_rfl
  i168 := by kernel_rfl
  i171 := by kernel_rfl
  i173 := by kernel_rfl
  i175 := by kernel_rfl
  i210 := by kernel_rfl
  i212 := by kernel_rfl
  i232 := by kernel_rfl
  i233 := by kernel_rfl
  m15 := by kernel_rfl
  m16 := by kernel_rfl
  m17 := by kernel_rfl
  m18 := by kernel_rfl
  m19 := by kernel_rfl
  c0 := by kernel_rfl
  c2 := by kernel_rfl
  c3 := by kernel_rfl
  c4 := by kernel_rfl
  c5 := by kernel_rfl
  c9 := by kernel_rfl
  c20 := by kernel_rfl
  c21 := by kernel_rfl
  c37 := by kernel_rfl
  c46 := by kernel_rfl
  c51 := by kernel_rfl
  c53 := by kernel_rfl
  c75 := by kernel_rfl
  c76 := by kernel_rfl
  c80 := by kernel_rfl
  c85 := by kernel_rfl
  c127 := by kernel_rfl
  c143 := by kernel_rfl
  c145 := by kernel_rfl
  c167 := by kernel_rfl
  c168 := by kernel_rfl
  c171 := by kernel_rfl
  c173 := by kernel_rfl
  c175 := by kernel_rfl
  c210 := by kernel_rfl
  c212 := by kernel_rfl
  c213 := by kernel_rfl
  c232 := by kernel_rfl
  c233 := by kernel_rfl }
open Go.RowKit in
/-- strconv.Atoi, AT EVERY STRING THAT SPELLS AN int ('Lib.atoiAll .. = .ok v'; of whatever length: leading zeros count): v, AND NO ERROR. The world: as it was, or with the one new row that '[]byte(..)' lays. (LAID: no walk: one application.) -/
theorem Tryz.strconv_Atoi_ok (s : ByteArray) (hmax : s.size ≤ 9223372036854775806) (v : Int) (h : Lib.atoiAll s.data.toList = .ok v) (w : World) :
    Calls Tryz.prog 101 #[.string s] w fun e w' => e = .returned (.tuple #[.int .i64 v, .nilIface]) ∧ (w' = w ∨ ∃ t, w' = Lib.bytesWorld w 5 t) := Any.strconv_Atoi_ok Tryz.laysC172 s hmax v h w
open Go.RowKit in
theorem Tryz.strconv_Atoi_range_var (s : ByteArray) (hlim : s.size ≤ 281474976710656) (h : Lib.atoiAll s.data.toList = .range) (tp : TypeId) (p : Value) (w : World) (hvar : w.var? Tryz.prog "strconv.ErrRange" = some #[.iface tp p]) :
    Calls Tryz.prog 101 #[.string s] w fun e w' => ∃ N, e = .returned (.tuple #[.int .i64 (Lib.atoiSat s.data.toList), .iface 201 (.pointer (some ⟨N, 0, none⟩))]) ∧ w.heap.size ≤ N ∧ w'.heap[N]? = some (.cells #[.string ⟨#[65, 116, 111, 105]⟩, .string s, .iface tp p] 235 (0, 0)) ∧ Below w.heap.size w w' := Any.strconv_Atoi_range_var Tryz.laysC172 s hlim h tp p w hvar
def Tryz.lays219_ren : Go.Shelf.Ren := ⟨fun | 219 => 151 | 217 => 190 | 225 => 191 | 224 => 192 | 267 => 193 | 266 => 224 | 314 => 225 | n => n, fun | 9 => 9 | 3 => 3 | 4 => 4 | 5 => 5 | 46 => 174 | 146 => 259 | 51 => 182 | n => n, fun | 1 => 0 | n => n⟩
theorem Tryz.lays219 : Go.Proofs.Lays.n219 Tryz.prog Tryz.lays219_ren := {
  mixed := by kernel_rfl
  f217 := Tryz.func190.trans (congrArg some (by kernel_rfl))
  f219 := Tryz.func151.trans (congrArg some (by kernel_rfl))
  f224 := Tryz.func192.trans (congrArg some (by kernel_rfl))
  f225 := Tryz.func191.trans (congrArg some (by kernel_rfl))
  f266 := Tryz.func224.trans (congrArg some (by kernel_rfl))
  f267 := Tryz.func193.trans (congrArg some (by kernel_rfl))
  f314 := Tryz.func225.trans (congrArg some (by kernel_rfl))
  t3 := Tryz.underlying3
  a3 := Tryz.isAgg3
  z3 := Tryz.sizeOf3
  v3 := Tryz.zeroValue3
  t4 := Tryz.underlying4
  a4 := Tryz.isAgg4
  z4 := Tryz.sizeOf4
  v4 := Tryz.zeroValue4
  t5 := Tryz.underlying5
  a5 := Tryz.isAgg5
  z5 := Tryz.sizeOf5
  v5 := Tryz.zeroValue5
  t9 := Tryz.underlying9
  a9 := Tryz.isAgg9
  z9 := Tryz.sizeOf9
  v9 := Tryz.zeroValue9
  t46 := Tryz.underlying174
  a46 := Tryz.isAgg174
  z46 := Tryz.sizeOf174
  v46 := Tryz.zeroValue174
  t51 := Tryz.underlying182
  a51 := Tryz.isAgg182
  z51 := Tryz.sizeOf182
  v51 := Tryz.zeroValue182
  t146 := Tryz.underlying259
  a146 := Tryz.isAgg259
  z146 := Tryz.sizeOf259
  v146 := Tryz.zeroValue259
  g1 := by kernel_rfl }
open Go.RowKit Go.Lib in
/-- internal/stringslite.Index (what strings.Index calls) AT A substr OF ONE BYTE c: IT RETURNS 'Lib.indexByte s c'; the world is as it was. (LAID: no walk: one application.) -/
theorem Tryz.stringslite_Index_one (s : ByteArray) (c : UInt8) (w : World) :
    Calls Tryz.prog 151 #[.string s, .string ⟨#[c]⟩] w fun e w' => e = .returned (.int .i64 (Lib.indexByte s.data.toList c)) ∧ w' = w := Any.stringslite_Index_one Tryz.lays219 s c w
def Tryz.lays212_ren : Go.Shelf.Ren := ⟨fun | 212 => 249 | 263 => 251 | 264 => 252 | n => n, fun | 46 => 174 | 51 => 182 | 146 => 259 | 53 => 214 | 148 => 286 | n => n, fun | n => n⟩
theorem Tryz.lays212 : Go.Proofs.Lays.n212 Tryz.prog Tryz.lays212_ren := {
  mixed := by kernel_rfl
  f212 := Tryz.func249.trans (congrArg some (by kernel_rfl))
  f263 := Tryz.func251.trans (congrArg some (by kernel_rfl))
  f264 := Tryz.func252.trans (congrArg some (by kernel_rfl))
  t46 := Tryz.underlying174
  a46 := Tryz.isAgg174
  z46 := Tryz.sizeOf174
  v46 := Tryz.zeroValue174
  t51 := Tryz.underlying182
  a51 := Tryz.isAgg182
  z51 := Tryz.sizeOf182
  v51 := Tryz.zeroValue182
  t53 := Tryz.underlying214
  a53 := Tryz.isAgg214
  z53 := Tryz.sizeOf214
  v53 := Tryz.zeroValue214
  t146 := Tryz.underlying259
  a146 := Tryz.isAgg259
  z146 := Tryz.sizeOf259
  v146 := Tryz.zeroValue259
  t148 := Tryz.underlying286
  a148 := Tryz.isAgg286
  z148 := Tryz.sizeOf286
  v148 := Tryz.zeroValue286 }
open Go.RowKit Go.Lib in
/-- math/bits.Mul: "Mul returns the full-width product of x and y": on a machine of 64 bits: Mul64's. (LAID: no walk: one application.) -/
theorem Tryz.bits_Mul (x y : Nat) (hx : x < 18446744073709551616) (hy : y < 18446744073709551616) (w : World) :
    Calls Tryz.prog 249 #[.int .u64 x, .int .u64 y] w fun e w' => e = .returned (.tuple #[.int .u64 ((x * y / 18446744073709551616 : Nat) : Int), .int .u64 ((x * y % 18446744073709551616 : Nat) : Int)]) ∧ w' = w := Any.bits_Mul Tryz.lays212 x y hx hy w
def Tryz.laysNm215_ren : Go.Shelf.Ren := ⟨fun | 15 => 128 | n => n, fun | 22 => 22 | 3 => 3 | 4 => 4 | n => n, fun | n => n⟩
theorem Tryz.laysNm215 : Go.Proofs.Lays2.n15 Tryz.prog Tryz.laysNm215_ren := {
  mixed := by kernel_rfl
  f15 := Tryz.func128.trans (congrArg some (by kernel_rfl))
  t3 := Tryz.underlying3
  a3 := Tryz.isAgg3
  z3 := Tryz.sizeOf3
  v3 := Tryz.zeroValue3
  t4 := Tryz.underlying4
  a4 := Tryz.isAgg4
  z4 := Tryz.sizeOf4
  v4 := Tryz.zeroValue4
  t22 := Tryz.underlying22
  a22 := Tryz.isAgg22
  z22 := Tryz.sizeOf22
  v22 := Tryz.zeroValue22
  i3 := by kernel_rfl }
open Go.RowKit Go.Lib in
/-- slices.Clone at []int: "Clone returns a copy of the slice. The elements are copied using assignment, so this is a shallow clone. The result may have additional unused capacity. The result preserves the nilness of s.": OF A SLICE THAT IS NOT nil IT RETURNS A SLICE THAT IS NOT nil, OF THE SAME ELEMENTS, IN MEMORY OF THE CALL's OWN: in the how-to's words (6f): 'w'.ownsRow B e 1 v' n cells': v' begins at the head of a row among the blocks from B on (B: the heap's size at the call), not frozen, whose first cells are the elements · 'Below B w w'': below B all is as it was. The capacity is whatever the run-time gives. 'zs': what the cells behind the slice's address hold; 'zs.take n': its elements. (LAID: no walk: one application.) -/
theorem Tryz.slices_Clone_int (b off n c : Nat) (zs : List Int) (w : World) (hz : n ≤ zs.length) (hbig : n * 8 ≤ 140737488355328) (hc : ∀ j, j < zs.length → w.cell? ⟨b, off + j, none⟩ = some (.int .i64 (zs.getD j 0))) :
    Calls Tryz.prog 128 #[.slice (some ⟨b, off, none⟩) n c] w fun e w' => ∃ v', e = .returned v' ∧ w'.ownsRow w.heap.size 3 1 v' n ((zs.take n).map (Value.int .i64)) ∧ v' ≠ .slice none 0 0 ∧ Below w.heap.size w w' := Any.slices_Clone_int Tryz.laysNm215 b off n c zs w hz hbig hc
open Go.RowKit Go.Lib in
/-- The same at nil: nil comes back; the world is as it was. (LAID: no walk: one application.) -/
theorem Tryz.slices_Clone_int_nil (n c : Nat) (w : World) :
    Calls Tryz.prog 128 #[.slice none n c] w fun e w' => e = .returned (.slice none 0 0) ∧ w' = w := Any.slices_Clone_int_nil Tryz.laysNm215 n c w
open Go.RowKit Go.Lib in
/-- The same at a slice of length 0 that is not nil, WHATEVER ITS ADDRESS (no cell is asked for): a slice that is not nil and owns nothing comes back. (LAID: no walk: one application.) -/
theorem Tryz.slices_Clone_int_zero (a : Addr) (c : Nat) (w : World) :
    Calls Tryz.prog 128 #[.slice (some a) 0 c] w fun e w' => ∃ v', e = .returned v' ∧ w'.ownsRow w.heap.size 3 1 v' 0 [] ∧ v' ≠ .slice none 0 0 ∧ Below w.heap.size w w' := Any.slices_Clone_int_zero Tryz.laysNm215 a c w
end Go.Proofs

/- The contract of label.Text on valid labels. -/
namespace Go.Proofs.YtdbnddmncbjobaaGreatDoor
open Go Go.RowKit

theorem enc_list : ∀ d : Nat, d < 26 → (Utf8.encode (97 + ((d : Nat) : Int))).data.toList = [UInt8.ofNat (97 + d)] := by decide
/-- The table that Itoa reads, in every world that grows from w. -/
def Tab (w : World) : Prop := ∀ W, Ext w W → Lib.TabIs Tryz.prog W "internal/strconv.uint64pow10" .u64 Lib.pow10Tab
theorem Tab.ext {w w' : World} (h : Tab w) (hx : Ext w w') : Tab w' := fun W hW => h W (hx.trans hW)
theorem size_one {x : ByteArray} {c : UInt8} (h : x.data.toList = [c]) : x.size = 1 := by have := congrArg List.length h; simpa using this
theorem ba_append (a b : List UInt8) : (⟨a.toArray⟩ : ByteArray) ++ ⟨b.toArray⟩ = ⟨(a ++ b).toArray⟩ := by
  apply ByteArray.ext
  simp [ByteArray.data_append]
def LTextPost (n s : Nat) (w : World) (e : Ending) (w' : World) : Prop := e = .returned (.string ⟨(Lib.decDigits n ++ lets s).toArray⟩) ∧ Ext w w'
set_option maxRecDepth 100000 in
theorem ltext_any (n s : Nat) (w : World) (hn : 1 ≤ n ∧ n ≤ 16384) (hs : s ≤ 16384) (htab : Tab w) : Calls Tryz.prog 105 #[.agg #[.int .i64 n, .int .i64 s]] w (LTextPost n s w) := by
  have HTAB := Lib.hid htab; clear htab
  have hl : labE n s = 0 := labE_ok (by omega) (by omega) (by omega) (by omega)
  have HE := Lib.hid hl; clear hl
  go_enter Tryz.func105, Tryz.ntmps105
  go_wp2_with (first | (go_at_call 138; refine (chk_any n s _).mono ?_; rintro e w1 ⟨rfl, hx⟩; rw [HE.out]; obtain ⟨q, p⟩ := hx.cells; have hz : w.heap.size < w1.heap.size := (by have a1 := hx.lt; simp at a1; omega)))
  go_loop [3, 4] (fun t k => LetRel s t k) (fun _ k => letM k)
  case atStart => exact ⟨s, ByteArray.empty, Nat.le_refl _, rfl, rfl, by simp, by simp⟩
  case round =>
    obtain ⟨u, t, hu, rfl, rfl, hts, ht⟩ := hrel
    have HT := Lib.hid ht; clear ht
    by_cases hu0 : u = 0
    · subst hu0
      have hz : ¬ ((0 : Int)) < (((0 : Nat) : Int)) := by decide
      have hls := let_done HT.out
      have HLS := Lib.hid hls; clear hls
      have hsz : (Lib.itoa (n : Int)) = Lib.decDigits n := by unfold Lib.itoa; rw [if_neg (by omega)]; simp
      have HSZ := Lib.hid hsz; clear hsz
      have hx0 : Ext w w1 := ((Ext.refl w).alloc _).trans hx
      go_wp2_with fail
      refine (Tryz.strconv_Itoa (n : Int) (by omega) (by omega) _ (HTAB.out _ hx0)).mono ?_
      rintro e w2 ⟨rfl, k9, os, rfl⟩
      have hx9 : Ext w1 (Go.Sort.grow (w1.drewN k9) os) := Lib.below_grow _ _ (Nat.le_refl _) k9 os
      rw [HSZ.out]
      have hlen : (⟨(Lib.decDigits n).toArray⟩ : ByteArray).size ≤ 100 := by
        have h21 := Lib.itoa_length_le (n : Int) (by omega) (by omega)
        rw [HSZ.out] at h21
        show (Lib.decDigits n).toArray.size ≤ 100
        simp; omega
      generalize Go.Sort.grow (w1.drewN k9) os = w3 at hx9 ⊢
      go_wp2
      go_ret
      exact ⟨congrArg (fun z => Ending.returned (.string z)) (by rw [HLS.out]; exact ba_append _ _), hx0.trans hx9⟩
    · obtain ⟨v, rfl⟩ : ∃ v, u = v + 1 := ⟨u - 1, by omega⟩
      have hz : (0 : Int) < (((v + 1 : Nat)) : Int) := by omega
      have hc : (((v + 1 : Nat)) : Int) - 1 = (v : Int) := by omega
      have hm := Int.emod_nonneg (v : Int) (show (26 : Int) ≠ 0 by omega)
      have hm2 := Int.emod_lt_of_pos (v : Int) (show (0 : Int) < 26 by omega)
      have hal := enc_list (v % 26) (Nat.mod_lt v (by omega))
      rw [Int.natCast_emod] at hal
      have hst := let_step (n := s) hu0 HT.out (x := Utf8.encode (97 + (v : Int) % ((26 : Nat) : Int))) (by rw [Nat.add_sub_cancel]; exact hal)
      have hsz := let_size hu0 hu hts (x := Utf8.encode (97 + (v : Int) % ((26 : Nat) : Int))) (by rw [Nat.add_sub_cancel]; exact hal)
      have hx1 : (Utf8.encode (97 + (v : Int) % 26)).size + t.size ≤ 9223372036854775807 := by
        have e : (Utf8.encode (97 + (v : Int) % ((26 : Nat) : Int))).size = 1 := size_one hal
        have e2 : (Utf8.encode (97 + (v : Int) % 26)).size = 1 := e
        rw [e2]; omega
      have HST := Lib.hid hst
      have HSZ := Lib.hid hsz
      clear hst hsz hal
      go_wp2
      exact ⟨⟨v / 26, _, by omega, by simp, rfl, by simpa using HSZ.out, by simpa using HST.out⟩, by simp [letM]; omega⟩
end Go.Proofs.YtdbnddmncbjobaaGreatDoor

/- Plain law: the texts of numbers and labels, and how they are read; no walk in sight. -/
namespace Go.Proofs.YtdbnddmncbjobaaGreatDoor
open Go

def dig (c : UInt8) : Bool := decide (48 ≤ c.toNat) && decide (c.toNat ≤ 57)
def low (c : UInt8) : Bool := decide (97 ≤ c.toNat) && decide (c.toNat ≤ 122)
theorem dig_iff {c : UInt8} : dig c = true ↔ 48 ≤ c.toNat ∧ c.toNat ≤ 57 := by simp [dig]
theorem low_iff {c : UInt8} : low c = true ↔ 97 ≤ c.toNat ∧ c.toNat ≤ 122 := by simp [low]
def dstep (a : Nat) (c : UInt8) : Nat := 10 * a + (c.toNat - 48)
def sstep (a : Nat) (c : UInt8) : Nat := 26 * a + (c.toNat - 97) + 1
/-- The value of digits behind a number. -/
def dval (a : Nat) (l : List UInt8) : Nat := l.foldl dstep a
/-- The value of letters behind a number. -/
def sval (a : Nat) (l : List UInt8) : Nat := l.foldl sstep a
theorem dval_nil (a : Nat) : dval a [] = a := rfl
theorem dval_cons (a : Nat) (c : UInt8) (l : List UInt8) : dval a (c :: l) = dval (10 * a + (c.toNat - 48)) l := by simp only [dval, List.foldl_cons, dstep]
theorem dval_snoc (l : List UInt8) (a : Nat) (c : UInt8) : dval a (l ++ [c]) = 10 * dval a l + (c.toNat - 48) := by
  simp only [dval, List.foldl_append, List.foldl_cons, List.foldl_nil, dstep]
theorem sval_snoc (l : List UInt8) (a : Nat) (c : UInt8) : sval a (l ++ [c]) = 26 * sval a l + (c.toNat - 97) + 1 := by
  simp only [sval, List.foldl_append, List.foldl_cons, List.foldl_nil, sstep]

/-! ### Numerals -/
theorem toNat_48 {d : Nat} (h : d < 10) : (UInt8.ofNat (48 + d)).toNat = 48 + d := by
  rw [UInt8.toNat_ofNat']; omega
theorem dec_small {u : Nat} (h : u < 10) : Lib.decDigits u = [UInt8.ofNat (48 + u)] := by rw [Lib.decDigits, dif_pos h]
theorem dec_big {u : Nat} (h : ¬ u < 10) : Lib.decDigits u = Lib.decDigits (u / 10) ++ [UInt8.ofNat (48 + u % 10)] := by rw [Lib.decDigits, dif_neg h]
theorem dec_all (u : Nat) : (Lib.decDigits u).all dig = true ∧ dval 0 (Lib.decDigits u) = u ∧ (Lib.decDigits u) ≠ [] ∧ (0 < u → (Lib.decDigits u).head? ≠ some 48) := by
  induction u using Nat.strongRecOn with
  | _ u ih =>
    by_cases h : u < 10
    · rw [dec_small h]
      have e := toNat_48 h
      refine ⟨by simp [dig]; omega, by simp [dval_cons, dval_nil]; omega, by simp, fun h0 h1 => ?_⟩
      have h2 : UInt8.ofNat (48 + u) = 48 := by simpa using h1
      rw [h2] at e
      have : (48 : UInt8).toNat = 48 := rfl
      omega
    · obtain ⟨h1, h2, h3, h4⟩ := ih (u / 10) (by omega)
      rw [dec_big h]
      have e := toNat_48 (d := u % 10) (by omega)
      refine ⟨by rw [List.all_append, h1]; simp [dig]; omega, by rw [dval_snoc, h2, e]; omega, by simp, fun _ => ?_⟩
      have h5 := h4 (by omega)
      cases hd : Lib.decDigits (u / 10) with
      | nil => exact absurd hd h3
      | cons a l => rw [hd] at h5; simpa using h5
theorem ofNat_toNat {c : UInt8} {k : Nat} (h : c.toNat = k) : UInt8.ofNat k = c := by
  subst h; simp
/-- A numeral that is well formed is the numeral of its value. -/
theorem dec_of (l : List UInt8) (hall : l.all dig = true) (hne : l ≠ []) (h0 : l.head? ≠ some 48) : Lib.decDigits (dval 0 l) = l ∧ 0 < dval 0 l := by
  have main : ∀ k (l : List UInt8), l.length = k → l.all dig = true → l ≠ [] → l.head? ≠ some 48 → Lib.decDigits (dval 0 l) = l ∧ 0 < dval 0 l := by
    intro k
    induction k with
    | zero => intro l h _ hne; cases l with
      | nil => exact absurd rfl hne
      | cons => simp at h
    | succ k ih =>
      intro l hl hall hne h0
      obtain ⟨m, c, rfl⟩ : ∃ m c, l = m ++ [c] := ⟨l.dropLast, l.getLast hne, (List.dropLast_concat_getLast hne).symm⟩
      rw [List.all_append] at hall
      simp only [List.all_cons, List.all_nil, Bool.and_true, Bool.and_eq_true] at hall
      have hc := dig_iff.1 hall.2
      rw [dval_snoc]
      cases m with
      | nil =>
        have h48 : c ≠ 48 := by simpa using h0
        have h49 : c.toNat ≠ 48 := fun h => h48 (by rw [← ofNat_toNat h]; rfl)
        simp only [dval_nil, List.nil_append, Nat.mul_zero, Nat.zero_add]
        refine ⟨?_, by omega⟩
        rw [dec_small (by omega), ofNat_toNat (c := c) (by omega)]
      | cons d m =>
        obtain ⟨h1, h2⟩ := ih (d :: m) (by simpa using hl) hall.1 (by simp) (by simpa using h0)
        refine ⟨?_, by omega⟩
        rw [dec_big (by omega), show (10 * dval 0 (d :: m) + (c.toNat - 48)) / 10 = dval 0 (d :: m) by omega, h1, ofNat_toNat (c := c) (by omega)]
  exact main l.length l rfl hall hne h0
theorem dval_lt : ∀ (l : List UInt8) (a : Nat), l.all dig = true → dval a l < (a + 1) * 10 ^ l.length
  | [], a, _ => by simp [dval_nil]
  | c :: l, a, h => by
    simp only [List.all_cons, Bool.and_eq_true] at h
    have hc := dig_iff.1 h.1
    have ih := dval_lt l (10 * a + (c.toNat - 48)) h.2
    simp only [dval_cons, List.length_cons]
    refine Nat.lt_of_lt_of_le ih ?_
    have : 10 * a + (c.toNat - 48) + 1 ≤ (a + 1) * 10 := by omega
    calc (10 * a + (c.toNat - 48) + 1) * 10 ^ l.length ≤ ((a + 1) * 10) * 10 ^ l.length := Nat.mul_le_mul_right _ this
      _ = (a + 1) * 10 ^ (l.length + 1) := by rw [Nat.pow_succ]; simp [Nat.mul_assoc, Nat.mul_comm]

/-! ### Letters -/
theorem lets_of (l : List UInt8) (hall : l.all low = true) : lets (sval 0 l) = l := by
  have main : ∀ k (l : List UInt8), l.length = k → l.all low = true → lets (sval 0 l) = l := by
    intro k
    induction k with
    | zero => intro l h _; cases l with
      | nil => exact lets_zero
      | cons => simp at h
    | succ k ih =>
      intro l hl hall
      have hne : l ≠ [] := by intro h; subst h; simp at hl
      obtain ⟨m, c, rfl⟩ : ∃ m c, l = m ++ [c] := ⟨l.dropLast, l.getLast hne, (List.dropLast_concat_getLast hne).symm⟩
      rw [List.all_append] at hall
      simp only [List.all_cons, List.all_nil, Bool.and_true, Bool.and_eq_true] at hall
      have hc := low_iff.1 hall.2
      rw [sval_snoc, lets_pos (by omega), show (26 * sval 0 m + (c.toNat - 97) + 1 - 1) / 26 = sval 0 m by omega, ih m (by simpa using hl) hall.1,
        show 97 + (26 * sval 0 m + (c.toNat - 97) + 1 - 1) % 26 = c.toNat by omega, ofNat_toNat rfl]
  exact main l.length l rfl hall
theorem lets_len (k : Nat) : ∀ u, u < (26 ^ (k + 1) - 1) / 25 → (lets u).length ≤ k := by
  induction k with
  | zero => intro u h; have : u = 0 := by simp at h; omega
            subst this; rw [lets_zero]; simp
  | succ k ih =>
    intro u h
    by_cases h0 : u = 0
    · subst h0; rw [lets_zero]; simp
    · rw [lets_pos h0, List.length_append]
      have h1 : 25 * ((26 ^ (k + 1) - 1) / 25) = 26 ^ (k + 1) - 1 := by
        have : 26 ^ (k + 1) % 25 = 1 := by rw [Nat.pow_mod]; simp
        omega
      have h2 : 25 * ((26 ^ (k + 1 + 1) - 1) / 25) = 26 ^ (k + 1 + 1) - 1 := by
        have : 26 ^ (k + 1 + 1) % 25 = 1 := by rw [Nat.pow_mod]; simp
        omega
      have h3 : 26 ^ (k + 1 + 1) = 26 * 26 ^ (k + 1) := by rw [Nat.pow_succ (n := 26) (m := k + 1)]; exact Nat.mul_comm _ _
      have := ih ((u - 1) / 26) (by omega)
      simp; omega

/-! ### Numbers of a citation -/
def numP (l : List UInt8) : Option Nat := if 1 ≤ l.length ∧ l.length ≤ 3 ∧ l.all dig = true ∧ (l.head? = some 48 → l.length = 1) then some (dval 0 l) else none
theorem numP_dec {n : Nat} (h : n < 1000) : numP (Lib.decDigits n) = some n := by
  obtain ⟨h1, h2, h3, h4⟩ := dec_all n
  have hl : (Lib.decDigits n).length ≤ 3 := by
    rw [Lib.decDigits_length]
    by_cases h10 : n < 10
    · rw [Lib.nDigits_small h10]; omega
    · rw [Lib.nDigits_big h10]
      by_cases h100 : n / 10 < 10
      · rw [Lib.nDigits_small h100]; omega
      · rw [Lib.nDigits_big h100, Lib.nDigits_small (by omega)]; omega
  unfold numP
  rw [if_pos, h2]
  refine ⟨?_, hl, h1, fun h5 => ?_⟩
  · cases hd : Lib.decDigits n with
    | nil => exact absurd hd h3
    | cons => simp
  · by_cases h0 : 0 < n
    · exact absurd h5 (h4 h0)
    · have : n = 0 := by omega
      subst this; rw [dec_small (by omega)]; rfl
theorem numP_some {l : List UInt8} {n : Nat} (h : numP l = some n) : Lib.decDigits n = l ∧ n < 1000 ∧ l.length ≤ 3 ∧ l.all dig = true ∧ l ≠ [] := by
  unfold numP at h
  split at h
  · rename_i hc
    obtain ⟨h1, h2, h3, h4⟩ := hc
    injection h with h
    subst h
    have hne : l ≠ [] := by intro e; subst e; simp at h1
    have hlt := dval_lt l 0 h3
    have hp : 10 ^ l.length ≤ 10 ^ 3 := Nat.pow_le_pow_right (by decide) h2
    refine ⟨?_, by omega, h2, h3, hne⟩
    by_cases h5 : l.head? = some 48
    · have := h4 h5
      match l, this with
      | [c], _ => have hc : c = 48 := by simpa using h5
                  subst hc; exact dec_small (by decide)
    · exact (dec_of l h3 hne h5).1
  · cases h
theorem pu10 : ∀ (l : List UInt8) (a : Nat), l.all dig = true → dval a l < 1000000000 → a < 1000000000 → Lib.parseUint10 a l = .ok (dval a l)
  | [], a, _, _, _ => rfl
  | c :: l, a, h, hv, ha => by
    simp only [List.all_cons, Bool.and_eq_true] at h
    have hc := dig_iff.1 h.1
    have hle : ∀ (l : List UInt8) (a : Nat), a ≤ dval a l := by
      intro l; induction l with
      | nil => intro a; exact Nat.le_refl _
      | cons d l ih => intro a; rw [dval_cons]; exact Nat.le_trans (by omega) (ih (10 * a + (d.toNat - 48)))
    rw [dval_cons] at hv ⊢
    have h1 : 10 * a + (c.toNat - 48) ≤ dval (10 * a + (c.toNat - 48)) l := hle l _
    rw [Lib.parseUint10, if_pos hc, if_neg (by omega), if_neg (by omega), show a * 10 + (c.toNat - 48) = 10 * a + (c.toNat - 48) by omega, pu10 l _ h.2 hv (by omega)]
theorem atoi_num {l : List UInt8} {n : Nat} (h : numP l = some n) : Lib.atoiAll l = .ok (n : Int) := by
  obtain ⟨h1, h2, h3, h4, h5⟩ := numP_some h
  have hd : dval 0 l = n := by rw [← h1]; exact (dec_all n).2.1
  match l, h5, h4, hd with
  | c :: r, _, h4, hd =>
    have hc := dig_iff.1 (show dig c = true by simp only [List.all_cons, Bool.and_eq_true] at h4; exact h4.1)
    unfold Lib.atoiAll
    have h45 : ¬ c.toNat = 45 := by omega
    have h43 : ¬ c.toNat = 43 := by omega
    simp only [h45, h43, or_false, if_false]
    have hm : Lib.parseMag (c :: r) = .ok n := by
      unfold Lib.parseMag
      rw [if_neg (by simp), pu10 _ 0 h4 (by omega) (by omega), hd]
    rw [hm]
    simp
    omega
theorem numP_of {l : List UInt8} {n : Int} (h3 : l.length ≤ 3) (h2 : Lib.itoa n = l) (h0 : 0 ≤ n) : numP l = some n.toNat := by
  obtain ⟨k, rfl⟩ : ∃ k : Nat, n = k := ⟨n.toNat, by omega⟩
  have e : Lib.itoa (k : Int) = Lib.decDigits k := by unfold Lib.itoa; rw [if_neg (by omega)]; simp
  rw [e] at h2
  subst h2
  have hlt := dval_lt (Lib.decDigits k) 0 (dec_all k).1
  rw [(dec_all k).2.1] at hlt
  have hp : 10 ^ (Lib.decDigits k).length ≤ 10 ^ 3 := Nat.pow_le_pow_right (by decide) h3
  simpa using numP_dec (n := k) (by omega)

/-! ### Labels -/
/-- label.Parse, byte by byte. -/
def labGo (n m nu su : Nat) : List UInt8 → Option (Nat × Nat)
  | [] => if n = 0 then none else some (nu, su)
  | c :: r => if dig c = true ∧ m = 0 ∧ n < 5 ∧ (0 < n ∨ c ≠ 48) then labGo (n + 1) m (10 * nu + (c.toNat - 48)) su r
    else if low c = true ∧ 0 < n ∧ m < 4 then labGo n (m + 1) nu (26 * su + (c.toNat - 97) + 1) r else none
/-- The reference's Parse of a label. -/
def labP (l : List UInt8) : Option (Nat × Nat) :=
  if 1 ≤ (l.takeWhile dig).length ∧ (l.takeWhile dig).length ≤ 5 ∧ l.head? ≠ some 48 ∧ (l.dropWhile dig).length ≤ 4 ∧ (l.dropWhile dig).all low = true
  then some (dval 0 (l.takeWhile dig), sval 0 (l.dropWhile dig)) else none
theorem dig_low {c : UInt8} (h : low c = true) : dig c = false := by
  have := low_iff.1 h
  cases hd : dig c with
  | false => rfl
  | true => have := dig_iff.1 hd; omega
theorem labGo_lets : ∀ (l : List UInt8) (n m nu su : Nat), 0 < n → m ≤ 4 → (0 < m ∨ ∀ c, l.head? = some c → dig c = false) →
    labGo n m nu su l = if m + l.length ≤ 4 ∧ l.all low = true then some (nu, sval su l) else none
  | [], n, m, nu, su, hn, hm, _ => by
    unfold labGo
    rw [if_neg (by omega), if_pos ⟨by simpa using hm, rfl⟩]
    rfl
  | c :: l, n, m, nu, su, hn, hm, hd => by
    unfold labGo
    rw [if_neg (by rintro ⟨h1, h2, _⟩; rcases hd with hd | hd; · omega
                   · rw [hd c rfl] at h1; cases h1)]
    by_cases hlow : low c = true ∧ m < 4
    · rw [if_pos ⟨hlow.1, hn, hlow.2⟩, labGo_lets l n (m + 1) nu _ hn (by omega) (.inl (by omega))]
      simp only [List.length_cons, List.all_cons, hlow.1, Bool.true_and]
      rw [show m + 1 + l.length = m + (l.length + 1) by omega]
      rfl
    · rw [if_neg (fun h => hlow ⟨h.1, h.2.2⟩), if_neg]
      rintro ⟨h1, h2⟩
      simp only [List.length_cons, List.all_cons, Bool.and_eq_true] at h1 h2
      exact hlow ⟨h2.1, by omega⟩
theorem labGo_digs : ∀ (l : List UInt8) (n nu : Nat), 0 < n → n ≤ 5 →
    labGo n 0 nu 0 l = if n + (l.takeWhile dig).length ≤ 5 ∧ (l.dropWhile dig).length ≤ 4 ∧ (l.dropWhile dig).all low = true then some (dval nu (l.takeWhile dig), sval 0 (l.dropWhile dig)) else none
  | [], n, nu, hn, h5 => by
    unfold labGo
    rw [if_neg (by omega), if_pos ⟨by simpa using h5, by simp, rfl⟩]
    rfl
  | c :: l, n, nu, hn, h5 => by
    by_cases hc : dig c = true
    · rw [List.takeWhile_cons, List.dropWhile_cons]
      simp only [hc, if_true, List.length_cons]
      unfold labGo
      by_cases hn5 : n < 5
      · rw [if_pos ⟨hc, rfl, hn5, .inl hn⟩, labGo_digs l (n + 1) _ (by omega) (by omega), show n + 1 + (l.takeWhile dig).length = n + ((l.takeWhile dig).length + 1) by omega]
        rfl
      · rw [if_neg (fun h => hn5 h.2.2.1), if_neg (fun h => by rw [dig_low h.1] at hc; cases hc), if_neg (by omega)]
    · have hcf : dig c = false := by simpa using hc
      rw [labGo_lets (c :: l) n 0 nu 0 hn (by omega) (.inr (by simpa using hcf)), List.takeWhile_cons, List.dropWhile_cons]
      simp only [hcf, Bool.false_eq_true, if_false, List.length_nil, Nat.add_zero, Nat.zero_add, dval_nil, h5, true_and]
theorem labGo_labP (l : List UInt8) : labGo 0 0 0 0 l = labP l := by
  cases l with
  | nil => rfl
  | cons c l =>
    unfold labGo labP
    rw [List.takeWhile_cons, List.dropWhile_cons]
    by_cases hc : dig c = true
    · simp only [hc, if_true, List.length_cons, List.head?_cons]
      by_cases h48 : c = 48
      · subst h48
        rw [if_neg (by simp), if_neg (by simp), if_neg (by simp)]
      · rw [if_pos ⟨trivial, trivial, by omega, .inr h48⟩, labGo_digs l 1 _ (by omega) (by omega)]
        have e : (1 + (l.takeWhile dig).length ≤ 5 ∧ (l.dropWhile dig).length ≤ 4 ∧ (l.dropWhile dig).all low = true) ↔ (1 ≤ (l.takeWhile dig).length + 1 ∧ (l.takeWhile dig).length + 1 ≤ 5 ∧ some c ≠ some 48 ∧ (l.dropWhile dig).length ≤ 4 ∧ (l.dropWhile dig).all low = true) :=
          ⟨fun ⟨a, b⟩ => ⟨by omega, by omega, by simpa using h48, b⟩, fun ⟨_, a, _, b⟩ => ⟨by omega, b⟩⟩
        simp only [e, dval_cons]
    · have hcf : dig c = false := by simpa using hc
      simp only [hcf, Bool.false_eq_true, if_false, List.length_nil, false_and, Nat.lt_irrefl, and_false]
      rw [if_neg (by omega)]
theorem labP_some {l : List UInt8} {n s : Nat} (h : labP l = some (n, s)) : Lib.decDigits n ++ lets s = l := by
  unfold labP at h
  split at h
  · rename_i hc
    obtain ⟨h1, h2, h3, h4, h5⟩ := hc
    injection h with h
    injection h with ha hb
    subst ha hb
    have hall : (l.takeWhile dig).all dig = true := List.all_takeWhile
    have hne : l.takeWhile dig ≠ [] := by intro e; rw [e] at h1; simp at h1
    have hh : (l.takeWhile dig).head? ≠ some 48 := by
      cases l with
      | nil => simp
      | cons c l =>
        rw [List.takeWhile_cons]
        split
        · simpa using h3
        · simp
    rw [(dec_of _ hall hne hh).1, lets_of _ h5, List.takeWhile_append_dropWhile]
  · cases h
end Go.Proofs.YtdbnddmncbjobaaGreatDoor

/- Plain law: the text of a citation, and how it is read; no walk in sight. -/
namespace Go.Proofs.YtdbnddmncbjobaaGreatDoor
open Go

/-- The parts of a text that slashes separate. -/
def parts : List UInt8 → List (List UInt8)
  | [] => [[]]
  | c :: r => if c = 47 then [] :: parts r else match parts r with
    | [] => [[c]]
    | p :: q => (c :: p) :: q
def NoSl (a : List UInt8) : Prop := ∀ c ∈ a, c ≠ 47
theorem parts_no : ∀ (a : List UInt8), NoSl a → parts a = [a]
  | [], _ => rfl
  | c :: a, h => by
    have hc : c ≠ 47 := h c (by simp)
    rw [parts, if_neg hc, parts_no a (fun d hd => h d (by simp [hd]))]
theorem parts_cut : ∀ (a b : List UInt8), NoSl a → parts (a ++ 47 :: b) = a :: parts b
  | [], b, _ => by rw [List.nil_append, parts, if_pos rfl]
  | c :: a, b, h => by
    have hc : c ≠ 47 := h c (by simp)
    rw [List.cons_append, parts, if_neg hc, parts_cut a b (fun d hd => h d (by simp [hd]))]
/-- Every text has no slash, or a first one. -/
theorem sl_cases : ∀ (l : List UInt8), NoSl l ∨ ∃ a b, l = a ++ 47 :: b ∧ NoSl a
  | [] => .inl (fun _ h => by simp at h)
  | c :: l => by
    by_cases hc : c = 47
    · subst hc; exact .inr ⟨[], l, rfl, fun _ h => by simp at h⟩
    · rcases sl_cases l with h | ⟨a, b, rfl, h⟩
      · refine .inl (fun d hd => ?_)
        rcases List.mem_cons.1 hd with rfl | hd
        · exact hc
        · exact h d hd
      · refine .inr ⟨c :: a, b, rfl, fun d hd => ?_⟩
        rcases List.mem_cons.1 hd with rfl | hd
        · exact hc
        · exact h d hd
theorem idx_no : ∀ (a : List UInt8), NoSl a → Lib.index a [47] = -1
  | [], _ => rfl
  | c :: a, h => by
    have hc : c ≠ 47 := h c (by simp)
    have hc2 : ¬ (47 : UInt8) = c := fun e => hc e.symm
    rw [Lib.index, idx_no a (fun d hd => h d (by simp [hd]))]
    simp [hc2]
theorem idx_cut : ∀ (a b : List UInt8), NoSl a → Lib.index (a ++ 47 :: b) [47] = (a.length : Int)
  | [], b, _ => by rw [List.nil_append, Lib.index]; simp
  | c :: a, b, h => by
    have hc : c ≠ 47 := h c (by simp)
    have hc2 : ¬ (47 : UInt8) = c := fun e => hc e.symm
    rw [List.cons_append, Lib.index, idx_cut a b (fun d hd => h d (by simp [hd]))]
    have : ((a.length : Int) == -1) = false := by rw [beq_eq_false_iff_ne]; omega
    simp [hc2, this]
theorem cut_no {a : List UInt8} (h : NoSl a) : Lib.cut a [47] = (a, [], false) := by
  unfold Lib.cut; rw [idx_no a h, if_neg (by omega)]
theorem cut_yes {a b : List UInt8} (h : NoSl a) : Lib.cut (a ++ 47 :: b) [47] = (a, b, true) := by
  unfold Lib.cut
  rw [idx_cut a b h, if_pos (by omega)]
  simp

def ct0 : Ct := ⟨0, 0, 0, 0⟩
def mkCt (br n s li : Nat) : Ct := ⟨br, n, s, li⟩
/-- What is read out of the three parts. -/
def read3 (b m x : List UInt8) : Ct × Int :=
  match numP b, numP x, labP m with
  | some br, some li, some (n, s) => if citB (mkCt br n s li) then (mkCt br n s li, 0) else (ct0, 5)
  | _, _, _ => (ct0, 7)
/-- The citation with a text, and the error. -/
def parseP (l : List UInt8) : Ct × Int :=
  match parts l with
  | [b, m, x] => read3 b m x
  | _ => (ct0, 7)
theorem read3_b {b m x : List UInt8} (h : numP b = none) : read3 b m x = (ct0, 7) := by unfold read3; rw [h]
theorem read3_x {b m x : List UInt8} (h : numP x = none) : read3 b m x = (ct0, 7) := by unfold read3; rw [h]; cases numP b <;> rfl
theorem read3_m {b m x : List UInt8} (h : labP m = none) : read3 b m x = (ct0, 7) := by unfold read3; rw [h]; cases numP b <;> cases numP x <;> rfl
theorem read3_ok {b m x : List UInt8} {br li n s : Nat} (h1 : numP b = some br) (h2 : numP x = some li) (h3 : labP m = some (n, s)) :
    read3 b m x = if citB (mkCt br n s li) then (mkCt br n s li, 0) else (ct0, 5) := by unfold read3; rw [h1, h2, h3]
theorem numP_noSl {l : List UInt8} {n : Nat} (h : numP l = some n) : NoSl l := fun c hc e => by
  have := List.all_eq_true.1 (numP_some h).2.2.2.1 c hc
  subst e; cases this
theorem numP_sl {a b : List UInt8} : numP (a ++ 47 :: b) = none := by
  cases h : numP (a ++ 47 :: b) with
  | none => rfl
  | some n => exact absurd rfl (numP_noSl h 47 (by simp))
/-- What the program does with its two cuts. -/
theorem parse_cuts (l b r m x : List UInt8) (f g : Bool) (h1 : Lib.cut l [47] = (b, r, f)) (h2 : Lib.cut r [47] = (m, x, g)) :
    parseP l = if f = true ∧ g = true then read3 b m x else (ct0, 7) := by
  rcases sl_cases l with h | ⟨a, t, rfl, h⟩
  · rw [cut_no h] at h1
    injection h1 with e1 e2; injection e2 with e2 e3
    subst e3
    unfold parseP; rw [parts_no l h, if_neg (by simp)]
  · rw [cut_yes h] at h1
    injection h1 with e1 e2; injection e2 with e2 e3
    subst e1 e2 e3
    unfold parseP; rw [parts_cut a t h]
    rcases sl_cases t with h' | ⟨a', t', rfl, h'⟩
    · rw [cut_no h'] at h2
      injection h2 with e1 e2; injection e2 with e2 e3
      subst e3
      rw [parts_no t h', if_neg (by simp)]
    · rw [cut_yes h'] at h2
      injection h2 with e1 e2; injection e2 with e2 e3
      subst e1 e2 e3
      rw [parts_cut a' t' h', if_pos (by simp)]
      rcases sl_cases t' with h'' | ⟨a'', t'', rfl, h''⟩
      · rw [parts_no t' h'']
      · rw [parts_cut a'' t'' h'', read3_x numP_sl]
        cases hp : parts t'' with
        | nil => cases t'' with
          | nil => simp [parts] at hp
          | cons c t'' => rw [parts] at hp; split at hp
                          · simp at hp
                          · split at hp <;> simp at hp
        | cons => rfl

/-- The text of a citation. -/
def textPC (c : Ct) : List UInt8 := if citB c then Lib.decDigits c.br.toNat ++ (47 :: (Lib.decDigits c.nu.toNat ++ lets c.su.toNat ++ (47 :: Lib.decDigits c.li.toNat))) else []
theorem citB_cases {c : Ct} (h : citB c = true) : 0 ≤ c.br ∧ c.br < 256 ∧ 1 ≤ c.li ∧ c.li ≤ 100 ∧ 1 ≤ c.nu ∧ c.nu ≤ 16384 ∧ 0 ≤ c.su ∧ c.su ≤ 16384 := by
  simpa [citB, labB, and_assoc] using h
theorem NoSl.append {a b : List UInt8} (h : NoSl a) (k : NoSl b) : NoSl (a ++ b) := fun c hc => by
  rcases List.mem_append.1 hc with hc | hc
  · exact h c hc
  · exact k c hc
theorem parts_join : ∀ (l b m x : List UInt8), parts l = [b, m, x] → l = b ++ (47 :: (m ++ (47 :: x))) := by
  have key : ∀ (l : List UInt8), l = (parts l).headD [] ++ ((parts l).tail.map (fun p => 47 :: p)).flatten ∧ parts l ≠ [] := by
    intro l
    induction l with
    | nil => exact ⟨rfl, by simp [parts]⟩
    | cons c l ih =>
      rw [parts]
      split
      · rename_i hc
        subst hc
        refine ⟨?_, by simp⟩
        cases hp : parts l with
        | nil => exact absurd hp ih.2
        | cons p q => have := ih.1; rw [hp] at this; simpa using this
      · cases hp : parts l with
        | nil => exact absurd hp ih.2
        | cons p q => have := ih.1; rw [hp] at this; exact ⟨by simpa using this, by simp⟩
  intro l b m x h
  have := (key l).1
  rw [h] at this
  simpa using this
theorem text_parse {l : List UInt8} {c : Ct} (h : parseP l = (c, 0)) : textPC c = l ∧ citB c = true := by
  unfold parseP at h
  split at h
  · rename_i b m x hp
    have hl := parts_join l b m x hp
    cases hb : numP b with
    | none => rw [read3_b hb] at h; cases h
    | some br =>
      cases hx : numP x with
      | none => rw [read3_x hx] at h; cases h
      | some li =>
        cases hm : labP m with
        | none => rw [read3_m hm] at h; cases h
        | some ns =>
          obtain ⟨n, s⟩ := ns
          rw [read3_ok hb hx hm] at h
          split at h
          · rename_i hc
            injection h with h _
            subst h
            refine ⟨?_, hc⟩
            unfold textPC
            rw [if_pos hc]
            simp only [mkCt, Int.toNat_natCast]
            rw [(numP_some hb).1, (numP_some hx).1, labP_some hm, ← hl]
          · cases h
  · cases h
theorem parse_cases (l : List UInt8) : (parseP l = (ct0, 7) ∨ parseP l = (ct0, 5)) ∨ ∃ c, parseP l = (c, 0) ∧ citB c = true := by
  unfold parseP
  split
  · rename_i b m x hp
    cases hb : numP b with
    | none => exact .inl (.inl (read3_b hb))
    | some br =>
      cases hx : numP x with
      | none => exact .inl (.inl (read3_x hx))
      | some li =>
        cases hm : labP m with
        | none => exact .inl (.inl (read3_m hm))
        | some ns =>
          obtain ⟨n, s⟩ := ns
          rw [read3_ok hb hx hm]
          split
          · rename_i hc; exact .inr ⟨_, rfl, hc⟩
          · exact .inl (.inr rfl)
  · exact .inl (.inl rfl)
end Go.Proofs.YtdbnddmncbjobaaGreatDoor

/- The contract of cite.Text. -/
namespace Go.Proofs.YtdbnddmncbjobaaGreatDoor
open Go Go.RowKit

def StrPost (s : List UInt8) (w : World) (e : Ending) (w' : World) : Prop := e = .returned (.string ⟨s.toArray⟩) ∧ Ext w w'
theorem itoa_nat (n : Nat) : Lib.itoa (n : Int) = Lib.decDigits n := by unfold Lib.itoa; rw [if_neg (by omega)]; simp
theorem itoa_any (n : Nat) (w : World) (hn : n ≤ 100000) (htab : Tab w) : Calls Tryz.prog 102 #[.int .i64 n] w (StrPost (Lib.decDigits n) w) := by
  refine (Tryz.strconv_Itoa (n : Int) (by omega) (by omega) w (htab w (Ext.refl w))).mono ?_
  rintro e w2 ⟨rfl, k9, os, rfl⟩
  exact ⟨by rw [itoa_nat], Lib.below_grow _ _ (Nat.le_refl _) k9 os⟩
theorem dec_len (n : Nat) (hn : n ≤ 100000) : (⟨(Lib.decDigits n).toArray⟩ : ByteArray).size ≤ 100 := by
  have h21 := Lib.itoa_length_le (n : Int) (by omega) (by omega)
  rw [itoa_nat] at h21
  show (Lib.decDigits n).toArray.size ≤ 100
  simp; omega
theorem lets_size (s : Nat) (hs : s ≤ 16384) : (lets s).length ≤ 4 := lets_len 4 s (by omega)
theorem lab_len (n s : Nat) (hn : n ≤ 100000) (hs : s ≤ 16384) : (⟨(Lib.decDigits n ++ lets s).toArray⟩ : ByteArray).size ≤ 200 := by
  have h1 := dec_len n hn
  have h2 := lets_size s hs
  have h3 : (Lib.decDigits n).length ≤ 100 := h1
  show (Lib.decDigits n ++ lets s).toArray.size ≤ 200
  simp; omega
theorem text_bytes (a b d : List UInt8) : (⟨a.toArray⟩ : ByteArray) ++ ⟨#[47]⟩ ++ ⟨b.toArray⟩ ++ ⟨#[47]⟩ ++ ⟨d.toArray⟩ = ⟨(a ++ (47 :: (b ++ (47 :: d)))).toArray⟩ := by
  rw [show (⟨#[47]⟩ : ByteArray) = ⟨[47].toArray⟩ from rfl]
  simp only [ba_append]
  simp
theorem ext_cells {w w1 : World} (hx : Ext w w1) {b : Nat} (hb : b < w.heap.size) {v0 v1 v2 v3 : Value} (h : w.cell? ⟨b, 0, none⟩ = some v0 ∧ w.cell? ⟨b, 1, none⟩ = some v1 ∧ w.cell? ⟨b, 2, none⟩ = some v2 ∧ w.cell? ⟨b, 3, none⟩ = some v3) :
    w1.cell? ⟨b, 0, none⟩ = some v0 ∧ w1.cell? ⟨b, 1, none⟩ = some v1 ∧ w1.cell? ⟨b, 2, none⟩ = some v2 ∧ w1.cell? ⟨b, 3, none⟩ = some v3 := by
  obtain ⟨q, _⟩ := hx.cells
  simpa [q _ _ hb] using h

set_option maxRecDepth 100000 in
theorem ctext_any (c : Ct) (w : World) (htab : Tab w) : Calls Tryz.prog 50 #[c.val] w (StrPost (textPC c) w) := by
  cases hc : citB c with
  | false =>
    have ht : textPC c = [] := by unfold textPC; rw [hc]; rfl
    have HT := Lib.hid ht
    have HC := Lib.hid hc
    clear ht hc htab
    unfold Ct.val
    go_enter Tryz.func50, Tryz.ntmps50
    go_wp2_with (first | (go_at_call 104; refine (valid_any c _).mono ?_; rintro e w1 ⟨rfl, hx⟩; rw [HC.out]))
    go_ret
    exact ⟨congrArg (fun z => Ending.returned (.string z)) (by rw [HT.out]), ((Ext.refl _).alloc _).trans hx⟩
  | true =>
    obtain ⟨h1, h2, h3, h4, h5, h6, h7, h8⟩ := citB_cases hc
    obtain ⟨br, nu, su, li⟩ := c
    obtain ⟨br, rfl⟩ : ∃ k : Nat, br = k := ⟨br.toNat, by simp at h1; omega⟩
    obtain ⟨nu, rfl⟩ : ∃ k : Nat, nu = k := ⟨nu.toNat, by simp at h5; omega⟩
    obtain ⟨su, rfl⟩ : ∃ k : Nat, su = k := ⟨su.toNat, by simp at h7; omega⟩
    obtain ⟨li, rfl⟩ : ∃ k : Nat, li = k := ⟨li.toNat, by simp at h3; omega⟩
    simp only at h1 h2 h3 h4 h5 h6 h7 h8
    have ht : textPC ⟨br, nu, su, li⟩ = Lib.decDigits br ++ (47 :: (Lib.decDigits nu ++ lets su ++ (47 :: Lib.decDigits li))) := by
      unfold textPC; rw [if_pos hc]; simp only [Int.toNat_natCast]
    have HT := Lib.hid ht
    have HC := Lib.hid hc
    obtain ⟨S1, e1⟩ : ∃ S : ByteArray, S = ⟨(Lib.decDigits br).toArray⟩ := ⟨_, rfl⟩
    obtain ⟨S2, e2⟩ : ∃ S : ByteArray, S = ⟨(Lib.decDigits nu ++ lets su).toArray⟩ := ⟨_, rfl⟩
    obtain ⟨S3, e3⟩ : ∃ S : ByteArray, S = ⟨(Lib.decDigits li).toArray⟩ := ⟨_, rfl⟩
    have hl1 : S1.size ≤ 100 := e1 ▸ dec_len br (by omega)
    have hl2 : S2.size ≤ 200 := e2 ▸ lab_len nu su (by omega) (by omega)
    have hl3 : S3.size ≤ 100 := e3 ▸ dec_len li (by omega)
    have HI1 := Lib.hid (fun (W : World) (hW : Ext w W) => (show Calls Tryz.prog 102 #[.int .i64 br] W (fun e w' => e = .returned (.string S1) ∧ Ext W w') from e1 ▸ itoa_any br W (by omega) (htab.ext hW)))
    have HI2 := Lib.hid (fun (W : World) (hW : Ext w W) => (show Calls Tryz.prog 105 #[.agg #[.int .i64 nu, .int .i64 su]] W (fun e w' => e = .returned (.string S2) ∧ Ext W w') from e2 ▸ ltext_any nu su W (by omega) (by omega) (htab.ext hW)))
    have HI3 := Lib.hid (fun (W : World) (hW : Ext w W) => (show Calls Tryz.prog 102 #[.int .i64 li] W (fun e w' => e = .returned (.string S3) ∧ Ext W w') from e3 ▸ itoa_any li W (by omega) (htab.ext hW)))
    have HE := Lib.hid (show S1 ++ ⟨#[47]⟩ ++ S2 ++ ⟨#[47]⟩ ++ S3 = ⟨(Lib.decDigits br ++ (47 :: (Lib.decDigits nu ++ lets su ++ (47 :: Lib.decDigits li)))).toArray⟩ by rw [e1, e2, e3]; exact text_bytes _ _ _)
    clear ht hc htab e1 e2 e3
    unfold Ct.val
    go_enter Tryz.func50, Tryz.ntmps50
    go_wp2_with (first | (go_at_call 104; refine (valid_any ⟨br, nu, su, li⟩ _).mono ?_; rintro e w1 ⟨rfl, hx⟩; rw [HC.out]; obtain ⟨q, p⟩ := hx.cells; have hz : w.heap.size < w1.heap.size := (by have a1 := hx.lt; simp at a1; omega)))
    have hx0 : Ext w w1 := ((Ext.refl w).alloc _).trans hx
    have hx0 := hx0.drew
    have hs1 : ¬ 9223372036854775807 < S1.size + 1 := by omega
    have hs2 : ¬ 9223372036854775807 < S1.size + 1 + S2.size := by omega
    have hs3 : ¬ 9223372036854775807 < S1.size + 1 + S2.size + 1 := by omega
    have hs4 : ¬ 9223372036854775807 < S1.size + 1 + S2.size + 1 + S3.size := by omega
    have c0 := ext_cells hx (b := w.heap.size) (by simp) (v0 := .int .i64 br) (v1 := .int .i64 nu) (v2 := .int .i64 su) (v3 := .int .i64 li) (by go_simp)
    go_region_held3 (fun W => W.cell? ⟨w.heap.size, 0, none⟩ = some (.int .i64 br) ∧ W.cell? ⟨w.heap.size, 1, none⟩ = some (.int .i64 nu) ∧ W.cell? ⟨w.heap.size, 2, none⟩ = some (.int .i64 su) ∧ W.cell? ⟨w.heap.size, 3, none⟩ = some (.int .i64 li))
      (first | exact c3 | exact c2 | exact c1 | go_keep)
      (first
        | (go_at_call 102; refine (HI1.out _ ?_).mono ?_; exact hx0; rintro e w2 ⟨rfl, hx2⟩; have c1 := ext_cells hx2 (b := w.heap.size) hz c0; have hz2 : w.heap.size < w2.heap.size := Nat.lt_of_lt_of_le hz hx2.lt)
        | (go_at_call 105; refine (HI2.out _ ?_).mono ?_; exact hx0.trans hx2; rintro e w3 ⟨rfl, hx3⟩; have c2 := ext_cells hx3 (b := w.heap.size) hz2 c1; have hz3 : w.heap.size < w3.heap.size := Nat.lt_of_lt_of_le hz2 hx3.lt)
        | (go_at_call 102; refine (HI3.out _ ?_).mono ?_; exact (hx0.trans hx2).trans hx3; rintro e w4 ⟨rfl, hx4⟩; have c3 := ext_cells hx4 (b := w.heap.size) hz3 c2))
    go_wp2
    go_ret
    exact ⟨congrArg (fun z => Ending.returned (.string z)) (by rw [HT.out]; exact HE.out), ((hx0.trans hx2).trans hx3).trans hx4⟩
end Go.Proofs.YtdbnddmncbjobaaGreatDoor

/- strings.Cut at a separator of one byte, however long the string is. -/
namespace Go.Proofs.YtdbnddmncbjobaaGreatDoor
open Go Go.RowKit

theorem lcut1_any (s : ByteArray) (hs : s.size ≤ 281474976710656) (w : World) :
    Calls Tryz.prog 134 #[.string s, .string ⟨#[47]⟩] w fun e w' => e = .returned (.tuple #[.string ⟨(Lib.cut s.data.toList [47]).1.toArray⟩, .string ⟨(Lib.cut s.data.toList [47]).2.1.toArray⟩, .bool (Lib.cut s.data.toList [47]).2.2]) ∧ ∃ n, w' = w.drewN n := by
  rcases Lib.indexB_cases s ⟨#[47]⟩ with hix | ⟨i, hix, hroom⟩
  · obtain ⟨e1, e2, e3⟩ := Lib.cutB_miss s ⟨#[47]⟩ hix
    have h1 : Lib.indexByte s.data.toList 47 = -1 := by rw [← Lib.index_one]; exact hix
    rw [e1, e2, e3]
    have H1 := Lib.hid h1
    clear hix e1 e2 e3 h1
    go_enter Tryz.func134, Tryz.ntmps134
    go_wp2_with (go_at_call 151; refine (Tryz.stringslite_Index_one s 47 _).mono ?_; rintro e w' ⟨rfl, rfl⟩; rw [H1.out])
    go_ret3
    exact ⟨rfl, 0, rfl⟩
  · obtain ⟨e1, e2, e3⟩ := Lib.cutB_hit s ⟨#[47]⟩ i hix
    have h1 : Lib.indexByte s.data.toList 47 = i := by rw [← Lib.index_one]; exact hix
    have hr : i + 1 ≤ s.size := hroom
    rw [e1, e2, e3]
    have H1 := Lib.hid h1
    have c1 : (0 : Int) ≤ ↑i := by omega
    have c2 : (↑i : Int) ≤ ↑s.size := by omega
    have c3 : (0 : Int) ≤ ↑i + 1 := by omega
    have c4 : (↑i + 1 : Int) ≤ ↑s.size := by omega
    have hw1 : IntKind.i64.wrap ((i : Int) + 1) = (i : Int) + 1 := IntWalk.i64_in _ (by omega)
    have hn1 : ((i : Int) + 1).toNat = i + 1 := by omega
    clear hix e1 e2 e3 h1 hroom
    go_enter Tryz.func134, Tryz.ntmps134
    go_wp2_with (go_at_call 151; refine (Tryz.stringslite_Index_one s 47 _).mono ?_; rintro e w' ⟨rfl, rfl⟩; rw [H1.out])
    go_region
    go_wp2
    go_ret3
    exact ⟨rfl, _, rfl⟩
/-- What a cut at the slash gives. -/
def CutIs (s : ByteArray) (a b : List UInt8) (f : Bool) : Prop := Lib.cut s.data.toList [47] = (a, b, f)
theorem cut1_any (s : ByteArray) (hs : s.size ≤ 281474976710656) (w : World) (a b : List UInt8) (f : Bool) (h : CutIs s a b f) :
    Calls Tryz.prog 99 #[.string s, .string ⟨#[47]⟩] w fun e w' => e = .returned (.tuple #[.string ⟨a.toArray⟩, .string ⟨b.toArray⟩, .bool f]) ∧ Ext w w' := by
  have HL := lcut1_any s hs
  rw [h] at HL
  have H := Lib.hid HL
  clear HL h
  go_enter Tryz.func99, Tryz.ntmps99
  go_wp2_with (go_at_call 134; refine (H.out _).mono ?_; rintro e w' ⟨rfl, n, rfl⟩)
  go_ret3
  exact ⟨rfl, (Ext.refl _).drewN _⟩
end Go.Proofs.YtdbnddmncbjobaaGreatDoor

/- The contract of label.Parse. -/
namespace Go.Proofs.YtdbnddmncbjobaaGreatDoor
open Go Go.RowKit

theorem next_end (W : World) (b : Nat) (hb : b = W.heap.size) (s : ByteArray) (pos : Nat) (ty : TypeId) (h : ¬ pos < s.size) :
    (Instr.next (.pointer (some ⟨b, 0, none⟩)) true ty).run Tryz.prog (W.alloc (.stringIter s pos)) = .ok (.tuple #[.bool false]) (W.alloc (.stringIter s pos)) := by
  subst hb; exact run_next_end W s pos ty h
theorem next_ascii (W : World) (b : Nat) (hb : b = W.heap.size) (s : ByteArray) (pos : Nat) (ty : TypeId) (h : pos < s.size) (ha : (s[pos]'h).toNat < 128) :
    (Instr.next (.pointer (some ⟨b, 0, none⟩)) true ty).run Tryz.prog (W.alloc (.stringIter s pos)) = .ok (.tuple #[.bool true, .int .i64 pos, .int .i32 (s[pos]'h).toNat]) (W.alloc (.stringIter s (pos + 1))) := by
  subst hb; exact run_next_ascii W s pos ty h ha
theorem next_any (W : World) (b : Nat) (hb : b = W.heap.size) (s : ByteArray) (pos : Nat) (ty : TypeId) (h : pos < s.size) :
    (Instr.next (.pointer (some ⟨b, 0, none⟩)) true ty).run Tryz.prog (W.alloc (.stringIter s pos)) = .ok (.tuple #[.bool true, .int .i64 pos, .int .i32 (Utf8.decode s pos).1]) (W.alloc (.stringIter s (pos + (Utf8.decode s pos).2))) := by
  subst hb; exact run_next_any W s pos ty h
/-- What a label's parse answers: number, suffix, error. -/
def labR (o : Option (Nat × Nat)) : Int × Int × Int :=
  match o with
  | some (n, s) => if labB n s then ((n : Int), (s : Int), 0) else (0, 0, 5)
  | none => (0, 0, 7)
def LPost (r : Int × Int × Int) (w : World) (e : Ending) (w' : World) : Prop := e = .returned (.tuple #[.agg #[.int .i64 r.1, .int .i64 r.2.1], .int .i64 r.2.2]) ∧ Ext w w'
theorem get_listC (s : ByteArray) (pos : Nat) (h : pos < s.size) : s.data.toList.drop pos = (s[pos]'h) :: s.data.toList.drop (pos + 1) := by
  have h' : pos < s.data.toList.length := by simpa using h
  rw [List.drop_eq_getElem_cons h']
  rfl
theorem drop_end (s : ByteArray) (pos : Nat) (h : ¬ pos < s.size) : s.data.toList.drop pos = [] := by
  apply List.drop_eq_nil_of_le
  have : s.data.toList.length = s.size := by simp
  omega
theorem labGo_A {n nu su : Nat} {c : UInt8} {r : List UInt8} (h1 : 48 ≤ c.toNat) (h2 : c.toNat ≤ 57) (h3 : n < 5) (h4 : 0 < n ∨ c.toNat ≠ 48) :
    labGo n 0 nu su (c :: r) = labGo (n + 1) 0 (10 * nu + (c.toNat - 48)) su r := by
  rw [labGo, if_pos ⟨dig_iff.2 ⟨h1, h2⟩, rfl, h3, h4.imp id (fun h e => h (by rw [e]; rfl))⟩]
theorem labGo_B {n m nu su : Nat} {c : UInt8} {r : List UInt8} (h1 : 97 ≤ c.toNat) (h2 : c.toNat ≤ 122) (h3 : 0 < n) (h4 : m < 4) :
    labGo n m nu su (c :: r) = labGo n (m + 1) nu (26 * su + (c.toNat - 97) + 1) r := by
  have hl := low_iff.2 ⟨h1, h2⟩
  rw [labGo, if_neg (fun h => by rw [dig_low hl] at h; cases h.1), if_pos ⟨hl, h3, h4⟩]
theorem labGo_C {n m nu su : Nat} {c : UInt8} {r : List UInt8} (h1 : ¬ (48 ≤ c.toNat ∧ c.toNat ≤ 57 ∧ m = 0 ∧ n < 5 ∧ (0 < n ∨ c.toNat ≠ 48))) (h2 : ¬ (97 ≤ c.toNat ∧ c.toNat ≤ 122 ∧ 0 < n ∧ m < 4)) :
    labGo n m nu su (c :: r) = none := by
  rw [labGo, if_neg, if_neg]
  · rintro ⟨a, b, d⟩; have := low_iff.1 a; exact h2 ⟨this.1, this.2, b, d⟩
  · rintro ⟨a, b, d, f⟩; have := dig_iff.1 a; exact h1 ⟨this.1, this.2, b, d, f.imp id (fun h e => h (ofNat_toNat e ▸ rfl))⟩

theorem iterPos_at (W : World) (b : Nat) (hb : b = W.heap.size) (s : ByteArray) (p : Nat) : (W.alloc (.stringIter s p)).iterPos b = p := by
  subst hb; exact World.iterPos_iter W s p
theorem lp_none {l : List UInt8} (h : labP l = none) : labR (labP l) = (0, 0, 7) := by rw [h]; rfl
theorem lp_end0 {l : List UInt8} {n m nu su : Nat} (hn : n = 0) (h : labGo n m nu su [] = labP l) : labR (labP l) = (0, 0, 7) := by
  rw [← h, labGo, if_pos hn]; rfl
theorem lp_bad {l : List UInt8} {n m nu su : Nat} (hn : ¬ n = 0) (hb : labB nu su = false) (h : labGo n m nu su [] = labP l) : labR (labP l) = (0, 0, 5) := by
  rw [← h, labGo, if_neg hn]; unfold labR; simp only [hb]; rfl
theorem lp_ok {l : List UInt8} {n m nu su : Nat} (hn : ¬ n = 0) (hb : labB nu su = true) (h : labGo n m nu su [] = labP l) : labR (labP l) = ((nu : Int), (su : Int), 0) := by
  rw [← h, labGo, if_neg hn]; unfold labR; simp only [hb]; rfl
theorem lpost {r : Int × Int × Int} {a b c : Int} {w w' : World} (h : r = (a, b, c)) (hx : Ext w w') : LPost r w (.returned (.tuple #[.agg #[.int .i64 a, .int .i64 b], .int .i64 c])) w' := by
  subst h; exact ⟨rfl, hx⟩
theorem labB_no {n s : Nat} (h : labB n s = false) : n < 1 ∨ 16384 < n ∨ 16384 < s := by
  simp [labB] at h; omega
theorem labB_yes {n s : Nat} (h : labB n s = true) : 1 ≤ n ∧ n ≤ 16384 ∧ s ≤ 16384 := by
  simp [labB] at h; omega
def LpRel (s : ByteArray) (w : World) (n m : Value) (w' : World) : Prop := ∃ (pos n' m' nu su : Nat), n = .int .i64 n' ∧ m = .int .i64 m' ∧ pos ≤ s.size ∧ n' ≤ 5 ∧ m' ≤ 4 ∧ pos = n' + m' ∧ (0 < m' → 0 < n') ∧ nu < 10 ^ n' ∧ su < 27 ^ m' ∧
  labGo n' m' nu su (s.data.toList.drop pos) = labP s.data.toList ∧
  w' = ((w.alloc (.cells #[.int .i64 0, .int .i64 0] 64)).alloc (.cells #[.int .i64 nu, .int .i64 su] 64)).alloc (.stringIter s pos)
set_option maxHeartbeats 4000000 in
set_option maxRecDepth 100000 in
theorem labp_any (s : ByteArray) (w : World) (hs : s.size ≤ 281474976710656) : Calls Tryz.prog 103 #[.string s] w (LPost (labR (labP s.data.toList)) w) := by
  go_enter Tryz.func103, Tryz.ntmps103
  go_wp2
  go_loopw [5, 6] (fun n m w' => LpRel s w n m w') (fun _ _ w' => s.size - w'.iterPos (w.heap.size + 2))
  case atStart => exact ⟨0, 0, 0, 0, 0, rfl, rfl, by omega, by omega, by omega, rfl, by omega, by omega, by omega, labGo_labP _, rfl⟩
  case round =>
    obtain ⟨pos, n, m, nu, su, rfl, rfl, hpos, hn5, hm4, hpn, hmn, hnu, hsu, hgo, rfl⟩ := hrel
    have HGO := Lib.hid hgo
    have HNU := Lib.hid hnu
    have HSU := Lib.hid hsu
    have HPN := Lib.hid hpn
    have HMN := Lib.hid hmn
    clear hgo hnu hsu hpn hmn
    by_cases hp : pos < s.size
    · by_cases ha : (s[pos]'hp).toNat < 128
      · have hnx := next_ascii ((w.alloc (.cells #[.int .i64 0, .int .i64 0] 64)).alloc (.cells #[.int .i64 nu, .int .i64 su] 64)) (w.heap.size + 1 + 1) (by simp) s pos
        have hnx := fun ty => hnx ty hp ha
        obtain ⟨c, hc⟩ : ∃ c : UInt8, c = s[pos]'hp := ⟨_, rfl⟩
        have hl := get_listC s pos hp
        rw [← hc] at hl hnx ha
        have HL := Lib.hid hl
        clear hl hc
        obtain ⟨k, hk⟩ : ∃ k : Nat, k = c.toNat := ⟨_, rfl⟩
        rw [← hk] at hnx ha
        have HK := Lib.hid hk
        clear hk
        have HNX := Lib.hid hnx
        clear hnx
        have hme : ∀ (x y : Int), s.size - (((w.alloc (.cells #[.int .i64 0, .int .i64 0] 64)).alloc (.cells #[.int .i64 x, .int .i64 y] 64)).alloc (.stringIter s (pos + 1))).iterPos (w.heap.size + 2) < s.size - (((w.alloc (.cells #[.int .i64 0, .int .i64 0] 64)).alloc (.cells #[.int .i64 nu, .int .i64 su] 64)).alloc (.stringIter s pos)).iterPos (w.heap.size + 2) := fun x y => by
          rw [iterPos_at _ _ (by simp), iterPos_at _ _ (by simp)]; omega
        have HME := Lib.hid hme
        clear hme
        by_cases hA : 48 ≤ k ∧ k ≤ 57 ∧ m = 0 ∧ n < 5 ∧ (0 < n ∨ k ≠ 48)
        · obtain ⟨h1, h2, rfl, h4, h5⟩ := hA
          have hnx := HNX.out
          have hpn0 : pos = n := HPN.out
          have hbn : nu < 10000 := Nat.lt_of_lt_of_le HNU.out (Nat.pow_le_pow_right (by decide) (show n ≤ 4 by omega))
          have fin : LpRel s w (.int .i64 ((n : Int) + 1)) (.int .i64 0) (((w.alloc (.cells #[.int .i64 0, .int .i64 0] 64)).alloc (.cells #[.int .i64 (10 * (nu : Int) + ((k : Int) - 48)), .int .i64 su] 64)).alloc (.stringIter s (pos + 1))) := by
            refine ⟨pos + 1, n + 1, 0, 10 * nu + (k - 48), su, rfl, rfl, by omega, by omega, by omega, by omega, by omega, ?_, HSU.out, ?_, by rw [show (10 * (nu : Int) + ((k : Int) - 48)) = ((10 * nu + (k - 48) : Nat) : Int) by omega]⟩
            · have := HNU.out; rw [Nat.pow_succ]; omega
            · rw [← HGO.out, HL.out, HK.out]
              exact (labGo_A (by rw [← HK.out]; exact h1) (by rw [← HK.out]; exact h2) h4 (by rw [← HK.out]; exact h5)).symm
          have FIN := Lib.hid fin
          clear fin
          rcases Nat.eq_zero_or_pos n with h6 | h6
          · obtain rfl : pos = 0 := by omega
            have hp0 : ((k : Int) == 48) = false := by simpa using (show ¬ (k : Int) = 48 by omega)
            clear hpn0 h5 h6
            go_wp2
            exact ⟨FIN.out, HME.out _ _⟩
          · have hp0 : (0 : Int) < (pos : Int) := by omega
            clear hpn0 h5
            go_wp2
            exact ⟨FIN.out, HME.out _ _⟩
        · by_cases hB : 97 ≤ k ∧ k ≤ 122 ∧ 0 < n ∧ m < 4
          · obtain ⟨h1, h2, h3, h4⟩ := hB
            have hnx := HNX.out
            have hbn : su < 19683 := Nat.lt_of_lt_of_le HSU.out (Nat.pow_le_pow_right (by decide) (show m ≤ 3 by omega))
            have fin : LpRel s w (.int .i64 n) (.int .i64 ((m : Int) + 1)) (((w.alloc (.cells #[.int .i64 0, .int .i64 0] 64)).alloc (.cells #[.int .i64 nu, .int .i64 (26 * (su : Int) + ((k : Int) - 97) + 1)] 64)).alloc (.stringIter s (pos + 1))) := by
              refine ⟨pos + 1, n, m + 1, nu, 26 * su + (k - 97) + 1, rfl, rfl, by omega, by omega, by omega, by have := HPN.out; omega, fun _ => h3, HNU.out, ?_, ?_, by rw [show (26 * (su : Int) + ((k : Int) - 97) + 1) = ((26 * su + (k - 97) + 1 : Nat) : Int) by omega]⟩
              · have := HSU.out; rw [Nat.pow_succ]; omega
              · rw [← HGO.out, HL.out, HK.out]
                exact (labGo_B (by rw [← HK.out]; exact h1) (by rw [← HK.out]; exact h2) h3 h4).symm
            have FIN := Lib.hid fin
            clear fin hA
            go_wp2
            exact ⟨FIN.out, HME.out _ _⟩
          · have hnx := HNX.out
            have hcl : labR (labP s.data.toList) = (0, 0, 7) := lp_none (by rw [← HGO.out, HL.out]; exact labGo_C (by rw [← HK.out]; exact hA) (by rw [← HK.out]; exact hB))
            have HCL := Lib.hid hcl
            have hpn0 := HPN.out
            have HA := Lib.hid (show (48 ≤ k ∧ k ≤ 57 ∧ m = 0 ∧ n < 5 ∧ (0 < pos ∨ k ≠ 48)) → False from fun ⟨a, b, d, f, g⟩ => hA ⟨a, b, d, f, g.imp (fun h => by omega) id⟩)
            have HB := Lib.hid hB
            clear hcl hA hB hpn0
            go_wp2
            all_goals first
              | (refine bodyPost_ret (v := .tuple #[.agg #[.int .i64 0, .int .i64 0], .int .i64 7]) (by simp [results, Tryz.results103, go_sem]) rfl ?_
                 exact lpost HCL.out (by repeat (first | exact Ext.refl _ | apply Ext.alloc)))
              | exact (HA.out ⟨by omega, by omega, by omega, by omega, .inl (by omega)⟩).elim
              | exact (HB.out ⟨by omega, by omega, by omega, by omega⟩).elim
              | (rename_i hq; exact (HA.out ⟨by omega, by omega, by omega, by omega, .inr (by simp at hq; omega)⟩).elim)
      · have hnx := fun ty => next_any ((w.alloc (.cells #[.int .i64 0, .int .i64 0] 64)).alloc (.cells #[.int .i64 nu, .int .i64 su] 64)) (w.heap.size + 1 + 1) (by simp) s pos ty hp
        have hdh := (decode_high s pos hp (by omega)).1
        have hcl : labR (labP s.data.toList) = (0, 0, 7) := lp_none (by rw [← HGO.out, get_listC s pos hp]; exact labGo_C (by omega) (by omega))
        have HCL := Lib.hid hcl
        obtain ⟨r, hr⟩ : ∃ r, r = Utf8.decode s pos := ⟨_, rfl⟩
        rw [← hr] at hnx hdh
        obtain ⟨r1, r2⟩ := r
        simp only at hdh hnx
        have hdi : (128 : Int) ≤ (r1 : Int) := by omega
        clear hcl hr hdh
        go_wp2
        all_goals first
          | (refine bodyPost_ret (v := .tuple #[.agg #[.int .i64 0, .int .i64 0], .int .i64 7]) (by simp [results, Tryz.results103, go_sem]) rfl ?_
             exact lpost HCL.out (by repeat (first | exact Ext.refl _ | apply Ext.alloc)))
    · have hnx := fun ty => next_end ((w.alloc (.cells #[.int .i64 0, .int .i64 0] 64)).alloc (.cells #[.int .i64 nu, .int .i64 su] 64)) (w.heap.size + 1 + 1) (by simp) s pos ty hp
      have hgo := HGO.out
      rw [drop_end s pos hp] at hgo
      have HG := Lib.hid hgo
      clear hgo
      by_cases hn0 : n = 0
      · subst hn0
        go_wp2
        refine bodyPost_ret (v := .tuple #[.agg #[.int .i64 0, .int .i64 0], .int .i64 7]) (by simp [results, Tryz.results103, go_sem]) rfl ?_
        exact lpost (lp_end0 rfl HG.out) (by repeat (first | exact Ext.refl _ | apply Ext.alloc))
      · have hz : ((n : Int) == 0) = false := by simpa using hn0
        cases hb : labB nu su with
        | false =>
          have HB := Lib.hid hb
          have hbad := labB_no hb
          have HBAD := Lib.hid hbad
          clear hb hbad
          go_wp2
          all_goals first
            | (exfalso; rcases HBAD.out with hq | hq | hq <;> omega)
            | (refine bodyPost_ret (v := .tuple #[.agg #[.int .i64 0, .int .i64 0], .int .i64 5]) (by simp [results, Tryz.results103, go_sem]) rfl ?_
               exact lpost (lp_bad hn0 HB.out HG.out) (by repeat (first | exact Ext.refl _ | apply Ext.alloc)))
        | true =>
          have HB := Lib.hid hb
          obtain ⟨hb1, hb2, hb3⟩ := labB_yes hb
          clear hb
          go_wp2
          all_goals first
            | (refine bodyPost_ret (v := .tuple #[.agg #[.int .i64 nu, .int .i64 su], .int .i64 0]) (by simp [results, Tryz.results103, go_sem]) rfl ?_
               exact lpost (lp_ok hn0 HB.out HG.out) (by repeat (first | exact Ext.refl _ | apply Ext.alloc)))
end Go.Proofs.YtdbnddmncbjobaaGreatDoor

/- The contracts of the two closures of cite.Parse: what they do to the two captured variables. -/
namespace Go.Proofs.YtdbnddmncbjobaaGreatDoor
open Go Go.RowKit

/-- The captured variables 'rest' and 'ok' lie in the blocks n + 1 and n + 2. -/
structure PSt (w W : World) (r : ByteArray) (k : Bool) : Prop where
  ext : Ext w W
  size : w.heap.size + 3 ≤ W.heap.size
  rest : W.cell? ⟨w.heap.size + 1, 0, none⟩ = some (.string r)
  ok : W.cell? ⟨w.heap.size + 2, 0, none⟩ = some (.bool k)
  frest : W.frozen? ⟨w.heap.size + 1, 0, none⟩ = false
  fok : W.frozen? ⟨w.heap.size + 2, 0, none⟩ = false
/-- All blocks but those two are as they were. -/
structure Keep (w W W' : World) : Prop where
  size : W.heap.size ≤ W'.heap.size
  cell : ∀ b o, b ≠ w.heap.size + 1 → b ≠ w.heap.size + 2 → b < W.heap.size → W'.cell? ⟨b, o, none⟩ = W.cell? ⟨b, o, none⟩
  frozen : ∀ b o, b ≠ w.heap.size + 1 → b ≠ w.heap.size + 2 → b < W.heap.size → W'.frozen? ⟨b, o, none⟩ = W.frozen? ⟨b, o, none⟩
theorem Keep.trans {w a b c : World} (h : Keep w a b) (k : Keep w b c) : Keep w a c :=
  ⟨Nat.le_trans h.size k.size, fun x o h1 h2 h3 => (k.cell x o h1 h2 (Nat.lt_of_lt_of_le h3 h.size)).trans (h.cell x o h1 h2 h3), fun x o h1 h2 h3 => (k.frozen x o h1 h2 (Nat.lt_of_lt_of_le h3 h.size)).trans (h.frozen x o h1 h2 h3)⟩
theorem Keep.ext {w a b : World} (h : Ext a b) : Keep w a b := by
  obtain ⟨q, p⟩ := h.cells
  exact ⟨h.lt, fun x o _ _ h3 => q x o h3, fun x o _ _ h3 => p x o h3⟩
theorem PSt.mono {w W W' : World} {r : ByteArray} {k : Bool} (h : PSt w W r k) (hx : Ext W W') : PSt w W' r k := by
  obtain ⟨q, p⟩ := hx.cells
  have hs := h.size
  exact ⟨h.ext.trans hx, Nat.le_trans h.size hx.lt, by rw [q _ _ (by omega)]; exact h.rest, by rw [q _ _ (by omega)]; exact h.ok, by rw [p _ _ (by omega)]; exact h.frest, by rw [p _ _ (by omega)]; exact h.fok⟩
theorem PSt.setOk {w W : World} {r : ByteArray} {k : Bool} (h : PSt w W r k) (k' : Bool) : PSt w (W.setCell ⟨w.heap.size + 2, 0, none⟩ (.bool k')) r k' :=
  ⟨h.ext.setCell (by show w.heap.size ≤ w.heap.size + 2; omega) _, by simpa using h.size, by rw [World.cell?_setCell_other _ _ _ _ (by simp)]; exact h.rest, World.cell?_setCell_same _ _ _ h.ok, by rw [World.frozen?_setCell]; exact h.frest, by rw [World.frozen?_setCell]; exact h.fok⟩
theorem PSt.setRest {w W : World} {r : ByteArray} {k : Bool} (h : PSt w W r k) (r' : ByteArray) : PSt w (W.setCell ⟨w.heap.size + 1, 0, none⟩ (.string r')) r' k :=
  ⟨h.ext.setCell (by show w.heap.size ≤ w.heap.size + 1; omega) _, by simpa using h.size, World.cell?_setCell_same _ _ _ h.rest, by rw [World.cell?_setCell_other _ _ _ _ (by simp)]; exact h.ok, by rw [World.frozen?_setCell]; exact h.frest, by rw [World.frozen?_setCell]; exact h.fok⟩
theorem Keep.setOk {w a W : World} (h : Keep w a W) (v : Value) : Keep w a (W.setCell ⟨w.heap.size + 2, 0, none⟩ v) :=
  ⟨by simpa using h.size, fun x o h1 h2 h3 => by rw [World.cell?_setCell_other _ _ _ _ (by intro e; injection e with e1; exact h2 e1.symm)]; exact h.cell x o h1 h2 h3, fun x o h1 h2 h3 => by rw [World.frozen?_setCell]; exact h.frozen x o h1 h2 h3⟩
theorem Keep.setRest {w a W : World} (h : Keep w a W) (v : Value) : Keep w a (W.setCell ⟨w.heap.size + 1, 0, none⟩ v) :=
  ⟨by simpa using h.size, fun x o h1 h2 h3 => by rw [World.cell?_setCell_other _ _ _ _ (by intro e; injection e with e1; exact h1 e1.symm)]; exact h.cell x o h1 h2 h3, fun x o h1 h2 h3 => by rw [World.frozen?_setCell]; exact h.frozen x o h1 h2 h3⟩

def PartPost (w W : World) (a : List UInt8) (r : ByteArray) (k : Bool) (e : Ending) (W' : World) : Prop := e = .returned (.string ⟨a.toArray⟩) ∧ PSt w W' r k ∧ Keep w W W'
set_option maxRecDepth 100000 in
theorem part_any (w W : World) (r : ByteArray) (k : Bool) (a b : List UInt8) (f : Bool) (hr : r.size ≤ 281474976710656) (hc : CutIs r a b f) (hS : PSt w W r k) :
    Calls Tryz.prog 98 #[.pointer (some ⟨w.heap.size + 1, 0, none⟩), .pointer (some ⟨w.heap.size + 2, 0, none⟩)] W (PartPost w W a ⟨b.toArray⟩ (k && f)) := by
  have HC := Lib.hid (fun X => cut1_any r hr X a b f hc)
  have HS := Lib.hid hS
  have c1 := hS.rest
  clear hc
  cases k
  · go_enter Tryz.func98, Tryz.ntmps98
    go_wp2_with (first | (go_at_call 99; refine (HC.out _).mono ?_; rintro e w1 ⟨rfl, hx⟩; have hS1 := HS.out.mono hx; have c2 := hS1.rest; have c3 := hS1.ok; have c4 := hS1.frest; have c5 := hS1.fok))
    go_ret
    exact ⟨rfl, (hS1.setRest _).setOk _, ((Keep.ext hx).setRest _).setOk _⟩
  · go_enter Tryz.func98, Tryz.ntmps98
    go_wp2_with (first | (go_at_call 99; refine (HC.out _).mono ?_; rintro e w1 ⟨rfl, hx⟩; have hS1 := HS.out.mono hx; have c2 := hS1.rest; have c3 := hS1.ok; have c4 := hS1.frest; have c5 := hS1.fok))
    go_ret
    exact ⟨rfl, (hS1.setRest _).setOk _, ((Keep.ext hx).setRest _).setOk _⟩
end Go.Proofs.YtdbnddmncbjobaaGreatDoor

/- The contract of the closure that reads a number. -/
namespace Go.Proofs.YtdbnddmncbjobaaGreatDoor
open Go Go.RowKit

/-- What the library's parsers read, in every world that grows from w: the table of powers, the two sentinels. -/
structure Env (w : World) : Prop where
  tab : Tab w
  syn : ∃ tp p, ∀ W, Ext w W → W.var? Tryz.prog "strconv.ErrSyntax" = some #[.iface tp p]
  rng : ∃ tp p, ∀ W, Ext w W → W.var? Tryz.prog "strconv.ErrRange" = some #[.iface tp p]
theorem Env.ext {w w' : World} (h : Env w) (hx : Ext w w') : Env w' :=
  ⟨h.tab.ext hx, h.syn.imp fun _ h => h.imp fun _ h W hW => h W (hx.trans hW), h.rng.imp fun _ h => h.imp fun _ h W hW => h W (hx.trans hW)⟩
theorem atoi_bounds {l : List UInt8} {v : Int} (h : Lib.atoiAll l = .ok v) : -9223372036854775808 ≤ v ∧ v ≤ 9223372036854775807 := by
  unfold Lib.atoiAll at h
  cases l with
  | nil => cases h
  | cons c r =>
    simp only at h
    split at h
    · cases h
    · cases h
    · split at h
      · cases h
      · split at h
        · cases h
        · injection h with h
          subst h
          split <;> omega
theorem atoi_ok_any (s : ByteArray) (v : Int) (X : World) (hs : s.size ≤ 281474976710656) (h : Lib.atoiAll s.data.toList = .ok v) :
    Calls Tryz.prog 101 #[.string s] X fun e X' => e = .returned (.tuple #[.int .i64 v, .nilIface]) ∧ Ext X X' := by
  refine (Tryz.strconv_Atoi_ok s (by omega) v h X).mono ?_
  rintro e X' ⟨rfl, h1 | ⟨t, h1⟩⟩
  · subst h1; exact ⟨rfl, Ext.refl _⟩
  · subst h1; exact ⟨rfl, Lib.bytesWorld_below X 5 t⟩
def AtBad (X : World) (e : Ending) (X' : World) : Prop := ∃ (v : Int) (N : Nat), e = .returned (.tuple #[.int .i64 v, .iface 201 (.pointer (some ⟨N, 0, none⟩))]) ∧ Ext X X'
theorem atoi_bad_any (s : ByteArray) (X : World) (hs : s.size ≤ 281474976710656) (hE : Env X) (h : ∀ v, Lib.atoiAll s.data.toList ≠ .ok v) :
    Calls Tryz.prog 101 #[.string s] X (AtBad X) := by
  rcases ha : Lib.atoiAll s.data.toList with v | _ | _
  · exact absurd ha (h v)
  · obtain ⟨tp, p, hv⟩ := hE.syn
    refine (Any.strconv_Atoi_syntax_var Tryz.laysC172 s hs ha tp p X (hv X (Ext.refl _))).mono ?_
    rintro e X' ⟨N, rfl, _, _, hb⟩
    exact ⟨_, N, rfl, hb⟩
  · obtain ⟨tp, p, hv⟩ := hE.rng
    refine (Tryz.strconv_Atoi_range_var s hs ha tp p X (hv X (Ext.refl _))).mono ?_
    rintro e X' ⟨N, rfl, _, _, hb⟩
    exact ⟨_, N, rfl, hb⟩
theorem itoa_int (v : Int) (S : ByteArray) (X : World) (h0 : -9223372036854775808 ≤ v) (h1 : v ≤ 9223372036854775807) (hS : S = ⟨(Lib.itoa v).toArray⟩) (htab : Tab X) :
    Calls Tryz.prog 102 #[.int .i64 v] X fun e X' => e = .returned (.string S) ∧ Ext X X' := by
  refine (Tryz.strconv_Itoa v h0 h1 X (htab X (Ext.refl X))).mono ?_
  rintro e w2 ⟨rfl, k9, os, rfl⟩
  exact ⟨by rw [hS], Lib.below_grow _ _ (Nat.le_refl _) k9 os⟩
def NumPost (w W : World) (s : List UInt8) (r : ByteArray) (k : Bool) (e : Ending) (W' : World) : Prop :=
  ∃ v : Int, e = .returned (.int .i64 v) ∧ PSt w W' r (k && (numP s).isSome) ∧ Keep w W W' ∧ ∀ x, numP s = some x → v = x
theorem num_none {s : List UInt8} (h : ∀ x, numP s ≠ some x) : numP s = none := by
  cases h1 : numP s with
  | none => rfl
  | some x => exact absurd h1 (h x)
theorem numpost_no {w W W' : World} {s : List UInt8} {r : ByteArray} {v : Int} {k : Bool} (h : k = false ∨ numP s = none) (hS : PSt w W' r false) (hK : Keep w W W') (hv : ∀ x, numP s = some x → v = x) : NumPost w W s r k (.returned (.int .i64 v)) W' := by
  refine ⟨v, rfl, ?_, hK, hv⟩
  have e : (k && (numP s).isSome) = false := by rcases h with h | h <;> simp [h]
  rw [e]; exact hS
theorem numpost_yes {w W W' : World} {s : List UInt8} {r : ByteArray} {v : Int} (h : numP s = some v.toNat) (hS : PSt w W' r true) (hK : Keep w W W') (h0 : 0 ≤ v) : NumPost w W s r true (.returned (.int .i64 v)) W' := by
  refine ⟨v, rfl, ?_, hK, fun x hx => ?_⟩
  · rw [h]; exact hS
  · rw [h] at hx; injection hx with hx; omega

set_option maxHeartbeats 4000000 in
set_option maxRecDepth 100000 in
theorem num_any (w W : World) (s r : ByteArray) (k : Bool) (hs : s.size ≤ 281474976710656) (hE : Env W) (hS : PSt w W r k) :
    Calls Tryz.prog 100 #[.string s, .pointer (some ⟨w.heap.size + 2, 0, none⟩)] W (NumPost w W s.data.toList r k) := by
  have HS := Lib.hid hS
  have HE := Lib.hid hE
  by_cases hok : ∃ v, Lib.atoiAll s.data.toList = .ok v
  · obtain ⟨v, ha⟩ := hok
    have hb := atoi_bounds ha
    have HA := Lib.hid (fun X => atoi_ok_any s v X hs ha)
    have hv : ∀ x, numP s.data.toList = some x → v = x := fun x hx => by
      have := atoi_num hx
      rw [ha] at this
      injection this
    have HV := Lib.hid hv
    clear hv hS hE
    cases k with
    | false =>
      go_enter Tryz.func100, Tryz.ntmps100
      go_wp2_with (first | (go_at_call 101; refine (HA.out _).mono ?_; rintro e w1 ⟨rfl, hx⟩; have hS1 := HS.out.mono hx; have c3 := hS1.ok; have c5 := hS1.fok))
      go_ret
      exact numpost_no (.inl rfl) (hS1.setOk _) ((Keep.ext hx).setOk _) HV.out
    | true =>
      by_cases h3 : s.size ≤ 3
      · obtain ⟨S, hSS⟩ : ∃ S : ByteArray, S = ⟨(Lib.itoa v).toArray⟩ := ⟨_, rfl⟩
        have HI := Lib.hid (fun X (hX : Ext W X) => itoa_int v S X hb.1 hb.2 hSS (HE.out.ext hX).tab)
        have hl3 : s.data.toList.length ≤ 3 := by simpa using h3
        by_cases hEq : S = s
        · subst hEq
          have hit : Lib.itoa v = S.data.toList := by rw [hSS]
          clear hSS
          by_cases hp : 0 ≤ v
          · have hn := numP_of hl3 hit hp
            have HN := Lib.hid hn
            clear hn hit ha
            go_enter Tryz.func100, Tryz.ntmps100
            go_wp2_with (first | (go_at_call 101; refine (HA.out _).mono ?_; rintro e w1 ⟨rfl, hx⟩; have hS1 := HS.out.mono hx; have c3 := hS1.ok; have c5 := hS1.fok) | (go_at_call 102; refine (HI.out _ hx).mono ?_; rintro e w2 ⟨rfl, hx2⟩; have hS2 := hS1.mono hx2; have c6 := hS2.ok; have c7 := hS2.fok))
            go_ret
            exact numpost_yes HN.out (hS2.setOk _) (((Keep.ext hx).trans (Keep.ext hx2)).setOk _) hp
          · have hn : numP S.data.toList = none := num_none fun x hx => hp (by have := HV.out x hx; omega)
            have HN := Lib.hid hn
            have hpd : decide (0 ≤ v) = false := decide_eq_false hp
            clear hn hit ha hp
            go_enter Tryz.func100, Tryz.ntmps100
            go_wp2_with (first | (go_at_call 101; refine (HA.out _).mono ?_; rintro e w1 ⟨rfl, hx⟩; have hS1 := HS.out.mono hx; have c3 := hS1.ok; have c5 := hS1.fok) | (go_at_call 102; refine (HI.out _ hx).mono ?_; rintro e w2 ⟨rfl, hx2⟩; have hS2 := hS1.mono hx2; have c6 := hS2.ok; have c7 := hS2.fok))
            go_ret
            exact numpost_no (.inr HN.out) (hS2.setOk _) (((Keep.ext hx).trans (Keep.ext hx2)).setOk _) HV.out
        · have hn : numP s.data.toList = none := num_none fun x hx => hEq (by
            have h1 := (numP_some hx).1
            have h2 := HV.out x hx
            rw [hSS, h2, itoa_nat, h1])
          have HN := Lib.hid hn
          have hne : (S.toList == s.toList) = false := by
            rw [beq_eq_false_iff_ne]
            intro e
            exact hEq (by rw [ByteArray.toList_eq, ByteArray.toList_eq] at e; exact ByteArray.ext (Array.toList_inj.1 e))
          clear hn hSS ha
          go_enter Tryz.func100, Tryz.ntmps100
          go_wp2_with (first | (go_at_call 101; refine (HA.out _).mono ?_; rintro e w1 ⟨rfl, hx⟩; have hS1 := HS.out.mono hx; have c3 := hS1.ok; have c5 := hS1.fok) | (go_at_call 102; refine (HI.out _ hx).mono ?_; rintro e w2 ⟨rfl, hx2⟩; have hS2 := hS1.mono hx2; have c6 := hS2.ok; have c7 := hS2.fok))
          go_ret
          exact numpost_no (.inr HN.out) (hS2.setOk _) (((Keep.ext hx).trans (Keep.ext hx2)).setOk _) HV.out
      · have hn : numP s.data.toList = none := num_none fun x hx => h3 (by have := (numP_some hx).2.2.1; simpa using this)
        have HN := Lib.hid hn
        clear hn ha
        go_enter Tryz.func100, Tryz.ntmps100
        go_wp2_with (first | (go_at_call 101; refine (HA.out _).mono ?_; rintro e w1 ⟨rfl, hx⟩; have hS1 := HS.out.mono hx; have c3 := hS1.ok; have c5 := hS1.fok))
        go_ret
        exact numpost_no (.inr HN.out) (hS1.setOk _) ((Keep.ext hx).setOk _) HV.out
  · have hn : numP s.data.toList = none := num_none fun x hx => hok ⟨x, atoi_num hx⟩
    have HN := Lib.hid hn
    have HA := Lib.hid (fun X (hX : Ext W X) => atoi_bad_any s X hs (HE.out.ext hX) (fun v h => hok ⟨v, h⟩))
    clear hn hok hS hE
    cases k with
    | false =>
      go_enter Tryz.func100, Tryz.ntmps100
      go_wp2_with (first | (go_at_call 101; refine (HA.out _ (Ext.refl _)).mono ?_; rintro e w1 ⟨v, N, rfl, hx⟩; have hS1 := HS.out.mono hx; have c3 := hS1.ok; have c5 := hS1.fok))
      go_ret
      exact numpost_no (.inl rfl) (hS1.setOk _) ((Keep.ext hx).setOk _) (fun x hx => by rw [HN.out] at hx; cases hx)
    | true =>
      go_enter Tryz.func100, Tryz.ntmps100
      go_wp2_with (first | (go_at_call 101; refine (HA.out _ (Ext.refl _)).mono ?_; rintro e w1 ⟨v, N, rfl, hx⟩; have hS1 := HS.out.mono hx; have c3 := hS1.ok; have c5 := hS1.fok))
      go_ret
      exact numpost_no (.inr HN.out) (hS1.setOk _) ((Keep.ext hx).setOk _) (fun x hx => by rw [HN.out] at hx; cases hx)
end Go.Proofs.YtdbnddmncbjobaaGreatDoor

/- Ways in which plain values lie in memory: numbers, strings, structs, rows of rows. -/
namespace Go.Proofs.YtdbnddmncbjobaaGreatDoor
open Go Go.RowKit

/-- The cells of an element of sz cells. -/
def Cs (sz : Nat) : Type := {cs : List Value // cs.length = sz ∧ ∀ u ∈ cs, u.oneCell' = true}
def ccf {sz : Nat} (c : Cs sz) : List Value := c.1
theorem ccf_len {sz : Nat} (c : Cs sz) : (ccf c).length = sz := c.2.1
theorem ccf_one {sz : Nat} (c : Cs sz) : ∀ u ∈ ccf c, u.oneCell' = true := c.2.2
/-- A way in which values of a type lie in memory: in sz cells, and in further blocks, of which P holds. -/
structure Lay (β : Type) where
  sz : Nat
  rep : World → (Nat → Prop) → β → List Value → Prop
  len : ∀ {W : World} {P : Nat → Prop} {x : β} {cs : List Value}, rep W P x cs → cs.length = sz
  one : ∀ {W : World} {P : Nat → Prop} {x : β} {cs : List Value}, rep W P x cs → ∀ u ∈ cs, u.oneCell' = true
  keep : ∀ {W W' : World} {P : Nat → Prop} {x : β} {cs : List Value}, rep W P x cs → W.heap.size ≤ W'.heap.size → (∀ k, P k → k < W.heap.size → W'.heap[k]? = W.heap[k]?) → rep W' P x cs
  mono : ∀ {W : World} {P Q : Nat → Prop} {x : β} {cs : List Value}, rep W P x cs → (∀ k, P k → k < W.heap.size → Q k) → rep W Q x cs
variable {α β : Type}
theorem Lay.ext (k : Lay β) {W W' : World} {P : Nat → Prop} {x : β} {cs : List Value} (h : k.rep W P x cs) (hx : Ext W W') : k.rep W' P x cs := k.keep h hx.lt fun j _ hj => hx.block j hj
def kInt : Lay Int where
  sz := 1
  rep _ _ n cs := cs = [.int .i64 n]
  len h := by subst h; rfl
  one h := by subst h; intro u hu; simp only [List.mem_singleton] at hu; subst hu; rfl
  keep h _ _ := h
  mono h _ := h
def kBool : Lay Bool where
  sz := 1
  rep _ _ n cs := cs = [.bool n]
  len h := by subst h; rfl
  one h := by subst h; intro u hu; simp only [List.mem_singleton] at hu; subst hu; rfl
  keep h _ _ := h
  mono h _ := h
def kStr : Lay (List UInt8) where
  sz := 1
  rep _ _ s cs := cs = [.string ⟨s.toArray⟩]
  len h := by subst h; rfl
  one h := by subst h; intro u hu; simp only [List.mem_singleton] at hu; subst hu; rfl
  keep h _ _ := h
  mono h _ := h
def Lay.pair (a : Lay α) (b : Lay β) : Lay (α × β) where
  sz := a.sz + b.sz
  rep W P x cs := ∃ ca cb, cs = ca ++ cb ∧ a.rep W P x.1 ca ∧ b.rep W P x.2 cb
  len h := by obtain ⟨ca, cb, rfl, h1, h2⟩ := h; rw [List.length_append, a.len h1, b.len h2]
  one h u hu := by
    obtain ⟨ca, cb, rfl, h1, h2⟩ := h
    rcases List.mem_append.1 hu with hu | hu
    · exact a.one h1 u hu
    · exact b.one h2 u hu
  keep h hs hk := by obtain ⟨ca, cb, e, h1, h2⟩ := h; exact ⟨ca, cb, e, a.keep h1 hs hk, b.keep h2 hs hk⟩
  mono h hq := by obtain ⟨ca, cb, e, h1, h2⟩ := h; exact ⟨ca, cb, e, a.mono h1 hq, b.mono h2 hq⟩
def Lay.via (k : Lay α) (f : β → α) : Lay β where
  sz := k.sz
  rep W P x cs := k.rep W P (f x) cs
  len h := k.len h
  one h := k.one h
  keep h hs hk := k.keep h hs hk
  mono h hq := k.mono h hq
/-- n elements xs lie behind the address A. -/
def Lay.row (k : Lay β) (W : World) (P : Nat → Prop) (A : Option Addr) (n : Nat) (xs : List β) : Prop :=
  ∃ ds : List (Cs k.sz), n = xs.length ∧ ds.length = xs.length ∧ SL ccf k.sz W A n ds ∧ (∀ x, A = some x → P x.block ∧ x.block < W.heap.size) ∧ ∀ (i : Nat) (d : Cs k.sz) (x : β), ds[i]? = some d → xs[i]? = some x → k.rep W P x d.1
theorem Lay.row_len {k : Lay β} {W : World} {P : Nat → Prop} {A : Option Addr} {n : Nat} {xs : List β} (h : k.row W P A n xs) : n = xs.length := h.choose_spec.1
theorem Lay.row_nil (k : Lay β) (W : World) (P : Nat → Prop) : k.row W P none 0 [] := ⟨[], rfl, rfl, SL.nil W, (fun _ h => nomatch h), fun i d x hd => by simp at hd⟩
theorem Lay.row_keep {k : Lay β} {W W' : World} {P : Nat → Prop} {A : Option Addr} {n : Nat} {xs : List β} (h : k.row W P A n xs) (hs : W.heap.size ≤ W'.heap.size) (hk : ∀ j, P j → j < W.heap.size → W'.heap[j]? = W.heap[j]?) : k.row W' P A n xs := by
  obtain ⟨ds, h1, h2, h3, h4, h5⟩ := h
  exact ⟨ds, h1, h2, h3.blocks fun x hx hl => hk _ (h4 x hx).1 hl, fun x hx => ⟨(h4 x hx).1, Nat.lt_of_lt_of_le (h4 x hx).2 hs⟩, fun i d x hd hx => k.keep (h5 i d x hd hx) hs hk⟩
theorem Lay.row_mono {k : Lay β} {W : World} {P Q : Nat → Prop} {A : Option Addr} {n : Nat} {xs : List β} (h : k.row W P A n xs) (hq : ∀ j, P j → j < W.heap.size → Q j) : k.row W Q A n xs := by
  obtain ⟨ds, h1, h2, h3, h4, h5⟩ := h
  exact ⟨ds, h1, h2, h3, fun x hx => ⟨hq _ (h4 x hx).1 (h4 x hx).2, (h4 x hx).2⟩, fun i d x hd hx => k.mono (h5 i d x hd hx) hq⟩
theorem Lay.row_ext {k : Lay β} {W W' : World} {P : Nat → Prop} {A : Option Addr} {n : Nat} {xs : List β} (h : k.row W P A n xs) (hx : Ext W W') : k.row W' P A n xs := Lay.row_keep h hx.lt fun j _ hj => hx.block j hj
/-- The element i: its cells. -/
theorem Lay.row_at {k : Lay β} {W : World} {P : Nat → Prop} {A : Option Addr} {n : Nat} {xs : List β} (h : k.row W P A n xs) {i : Nat} {x : β} (hi : xs[i]? = some x) :
    ∃ b off cs, A = some ⟨b, off, none⟩ ∧ b < W.heap.size ∧ P b ∧ k.rep W P x cs ∧ ∀ j u, cs[j]? = some u → W.cell? ⟨b, off + i * k.sz + j, none⟩ = some u := by
  obtain ⟨ds, h1, h2, h3, h4, h5⟩ := h
  have hl := (List.getElem?_eq_some_iff.1 hi).1
  obtain ⟨b, off, rfl, hb, hc⟩ := h3.2 (by omega)
  obtain ⟨d, hd⟩ : ∃ d, ds[i]? = some d := ⟨_, List.getElem?_eq_getElem (by omega)⟩
  exact ⟨b, off, d.1, rfl, hb, (h4 _ rfl).1, h5 i d x hd hi, fun j u hu => hc i d hd j u hu⟩
/-- The elements from i on. -/
theorem Lay.row_drop {k : Lay β} {W : World} {P : Nat → Prop} {b off : Nat} {n : Nat} {xs : List β} (h : k.row W P (some ⟨b, off, none⟩) n xs) (i : Nat) : k.row W P (some ⟨b, off + i * k.sz, none⟩) (n - i) (xs.drop i) := by
  obtain ⟨ds, h1, h2, h3, h4, h5⟩ := h
  refine ⟨ds.drop i, by simp [h1], by simp [h2], ⟨by simp [h2, h1], fun h0 => ?_⟩, fun x hx => ?_, fun j d x hd hx => ?_⟩
  · obtain ⟨b', off', e, hb, hc⟩ := h3.2 (by omega)
    simp only [Option.some.injEq, Addr.mk.injEq] at e
    obtain ⟨rfl, rfl, _⟩ := e
    refine ⟨b, _, rfl, hb, fun j d hd l u hu => ?_⟩
    rw [List.getElem?_drop] at hd
    have := hc (i + j) d hd l u hu
    rw [Nat.add_mul] at this
    rw [show off + i * k.sz + j * k.sz + l = off + (i * k.sz + j * k.sz) + l by omega]
    exact this
  · injection hx with hx
    subst hx
    exact h4 ⟨b, off, none⟩ rfl
  · rw [List.getElem?_drop] at hd hx
    exact h5 _ d x hd hx
/-- The elements before m. -/
theorem Lay.row_take {k : Lay β} {W : World} {P : Nat → Prop} {A : Option Addr} {n : Nat} {xs : List β} (h : k.row W P A n xs) (m : Nat) (hm : m ≤ n) : k.row W P A m (xs.take m) := by
  obtain ⟨ds, h1, h2, h3, h4, h5⟩ := h
  refine ⟨ds.take m, by simp; omega, by simp [h2], ⟨by simp; omega, fun h0 => ?_⟩, h4, fun j d x hd hx => ?_⟩
  · obtain ⟨b, off, e, hb, hc⟩ := h3.2 (by omega)
    refine ⟨b, off, e, hb, fun j d hd l u hu => ?_⟩
    rw [List.getElem?_take] at hd
    split at hd
    · exact hc j d hd l u hu
    · cases hd
  · rw [List.getElem?_take] at hd hx
    split at hd
    · next hj => rw [if_pos hj] at hx; exact h5 j d x hd hx
    · cases hd
def Lay.list (k : Lay β) : Lay (List β) where
  sz := 1
  rep W P xs cs := ∃ A n c, cs = [.slice A n c] ∧ n ≤ c ∧ k.row W P A n xs
  len h := by obtain ⟨A, n, c, rfl, _⟩ := h; rfl
  one h u hu := by obtain ⟨A, n, c, rfl, _⟩ := h; simp only [List.mem_singleton] at hu; subst hu; rfl
  keep h hs hk := by obtain ⟨A, n, c, e, h1, h2⟩ := h; exact ⟨A, n, c, e, h1, Lay.row_keep h2 hs hk⟩
  mono h hq := by obtain ⟨A, n, c, e, h1, h2⟩ := h; exact ⟨A, n, c, e, h1, Lay.row_mono h2 hq⟩
/-- The slice v holds the elements xs in a row of its own, in a block from base on; what they hold lies in other blocks, of which P holds. -/
def Lay.own (k : Lay β) (e : TypeId) (W : World) (base : Nat) (P : Nat → Prop) (v : Value) (xs : List β) : Prop :=
  ∃ ds : List (Cs k.sz), OL ccf k.sz W base e v ds ∧ ds.length = xs.length ∧ ∀ (i : Nat) (d : Cs k.sz) (x : β), ds[i]? = some d → xs[i]? = some x → k.rep W (fun j => P j ∧ v.ownBlock ≠ some j) x d.1
theorem Lay.own_nil (k : Lay β) (e : TypeId) (W : World) (base : Nat) (P : Nat → Prop) : k.own e W base P (.slice none 0 0) [] := ⟨[], OL.nil W base e, rfl, fun i d x hd => by simp at hd⟩
theorem Lay.own_lt {k : Lay β} {e : TypeId} {W : World} {base : Nat} {P : Nat → Prop} {v : Value} {xs : List β} (h : k.own e W base P v xs) : ∀ j, v.ownBlock = some j → base ≤ j ∧ j < W.heap.size := by
  obtain ⟨ds, h1, _⟩ := h
  exact World.ownsRow.lt h1
theorem Lay.own_keep {k : Lay β} {e : TypeId} {W W' : World} {base : Nat} {P : Nat → Prop} {v : Value} {xs : List β} (h : k.own e W base P v xs) (hs : W.heap.size ≤ W'.heap.size) (hk : ∀ j, (P j ∨ v.ownBlock = some j) → j < W.heap.size → W'.heap[j]? = W.heap[j]?) : k.own e W' base P v xs := by
  have hlt := Lay.own_lt h
  obtain ⟨ds, h1, h2, h3⟩ := h
  exact ⟨ds, OL.keepB h1 fun j hj => hk j (.inr hj) (hlt j hj).2, h2, fun i d x hd hx => k.keep (h3 i d x hd hx) hs fun j hj hl => hk j (.inl hj.1) hl⟩
theorem Lay.own_ext {k : Lay β} {e : TypeId} {W W' : World} {base : Nat} {P : Nat → Prop} {v : Value} {xs : List β} (h : k.own e W base P v xs) (hx : Ext W W') : k.own e W' base P v xs := Lay.own_keep h hx.lt fun j _ hj => hx.block j hj
theorem Lay.own_mono {k : Lay β} {e : TypeId} {W : World} {base : Nat} {P P' : Nat → Prop} {v : Value} {xs : List β} (h : k.own e W base P v xs) (hp : ∀ j, P j → j < W.heap.size → P' j) : k.own e W base P' v xs := by
  obtain ⟨ds, h1, h2, h3⟩ := h
  exact ⟨ds, h1, h2, fun i d x hd hx => k.mono (h3 i d x hd hx) fun j hj hl => ⟨hp j hj.1 hl, hj.2⟩⟩
/-- What is in a row of its own, as a row. -/
theorem Lay.own_row {k : Lay β} {e : TypeId} {W : World} {base : Nat} {P : Nat → Prop} {v : Value} {xs : List β} (h : k.own e W base P v xs) : ∃ A c, v = .slice A xs.length c ∧ xs.length ≤ c ∧ k.row W (fun j => P j ∨ v.ownBlock = some j) A xs.length xs := by
  have hlt := Lay.own_lt h
  obtain ⟨ds, h1, h2, h3⟩ := h
  obtain ⟨A, c, e, hc, hs⟩ := OL.form ccf_len h1
  rw [h2] at e hc hs
  exact ⟨A, c, e, hc, ds, rfl, h2, hs, fun x hx => ⟨.inr (by rw [e, hx]; rfl), (hlt x.block (by rw [e, hx]; rfl)).2⟩, fun i d x hd hx => k.mono (h3 i d x hd hx) fun j hj _ => .inl hj.1⟩
/-- append of further elements, which lie in other blocks of P. -/
theorem Lay.own_append {k : Lay β} {P : Program} {t e : TypeId} {z : Value} {bytes : Nat} (ht : P.underlying t = some (.slice e))
    (hinfo : (P.info? e).map (fun i => (i.zero, i.size, i.bytes)) = some (some z, k.sz, bytes)) (hzs : z.cells.size = k.sz) (hsz : 0 < k.sz) (hby : bytes ≤ 1000)
    {W : World} {base : Nat} {R : Nat → Prop} {v : Value} {xs : List β} (h : k.own e W base R v xs) {A : Option Addr} {m : Nat} {ds' : List (Cs k.sz)} {ys : List β} (hs : SL ccf k.sz W A m ds') (hl : ds'.length = ys.length)
    (hr : ∀ (i : Nat) (d : Cs k.sz) (x : β), ds'[i]? = some d → ys[i]? = some x → k.rep W (fun j => R j ∧ v.ownBlock ≠ some j) x d.1) (c : Nat) (hm : xs.length + m ≤ 100000000) (hbase : base ≤ W.heap.size) :
    ∃ A' c' w', (Builtin.append_ #[t, t] t #[v, .slice A m c]).run P W = .ok (.slice A' (xs.length + m) c') w' ∧ k.own e w' base R (.slice A' (xs.length + m) c') (xs ++ ys) ∧ (∀ B, B ≤ base → Below B W w') ∧
      (∀ j, j < W.heap.size → v.ownBlock ≠ some j → w'.heap[j]? = W.heap[j]?) ∧ W.heap.size ≤ w'.heap.size ∧ (∀ j, (Value.slice A' (xs.length + m) c').ownBlock = some j → v.ownBlock = some j ∨ W.heap.size ≤ j) := by
  obtain ⟨ds, h1, h2, h3⟩ := h
  obtain ⟨rfl, hs⟩ := hs
  obtain ⟨A', c', w', r1, r2, r3, r4, r5⟩ := run_append_src5 (P := P) (t := t) ht hinfo hzs hsz h1 (A := A) (m := ds'.length) (c := c) (news := gcells ccf ds') (gcells_len ccf_len ds')
    (fun h0 => by
      obtain ⟨b, off, rfl, _, hc⟩ := hs h0
      refine ⟨b, off, rfl, fun j u hu => ?_⟩
      have hj : j < ds'.length * k.sz := by rw [← gcells_len (cf := ccf) ccf_len]; exact (List.getElem?_eq_some_iff.1 hu).1
      have hjs : j / k.sz < ds'.length := Nat.div_lt_of_lt_mul (by rw [Nat.mul_comm]; exact hj)
      have e : j = j / k.sz * k.sz + j % k.sz := by rw [Nat.mul_comm]; exact (Nat.div_add_mod j k.sz).symm
      have hmod : j % k.sz < k.sz := Nat.mod_lt _ hsz
      rw [e, gcells_at ccf_len ds' (j / k.sz) _ (List.getElem?_eq_getElem hjs) (j % k.sz) hmod] at hu
      have := hc (j / k.sz) _ (List.getElem?_eq_getElem hjs) (j % k.sz) u hu
      rw [Nat.add_assoc, ← e] at this
      exact this)
    (gcells_one ccf_one ds') (by simp only [maxLen]; omega) (Nat.le_trans (Nat.mul_le_mul (by omega) hby) (by omega : 100000000 * 1000 ≤ _)) hbase
  rw [h2] at r1 r2 r5
  have hkeep : ∀ j, j < W.heap.size → v.ownBlock ≠ some j → w'.heap[j]? = W.heap[j]? := fun j hj hne => r4 j hj (fun a => by rw [h2]; exact ownBlock_of hne a)
  have hsz' : W.heap.size ≤ w'.heap.size := (r3 base (Nat.le_refl _)).size
  have hnew : ∀ j, (Value.slice A' (xs.length + ds'.length) c').ownBlock = some j → v.ownBlock = some j ∨ W.heap.size ≤ j := fun j e => by
    rcases r5 with r5 | r5
    · exact .inl (r5.symm.trans e)
    · rw [r5] at e
      injection e with e; exact .inr (by omega)
  refine ⟨A', c', w', r1, ⟨ds ++ ds', ?_, by simp [h2, hl], fun i d x hd hx => ?_⟩, r3, hkeep, hsz', hnew⟩
  · unfold OL
    rw [List.length_append, h2, gcells_append]
    exact r2
  · have hall : k.rep W (fun j => R j ∧ v.ownBlock ≠ some j) x d.1 := by
      rw [List.getElem?_append] at hd hx
      rw [h2] at hd
      split at hd
      · next hi => rw [if_pos hi] at hx; exact h3 i d x hd hx
      · next hi => rw [if_neg hi] at hx; exact hr _ d x hd hx
    have h4 := k.mono (Q := fun j => R j ∧ v.ownBlock ≠ some j ∧ j < W.heap.size) hall fun j hj hl => ⟨hj.1, hj.2, hl⟩
    exact k.mono (k.keep h4 hsz' fun j hj hl => hkeep j hl hj.2.1) fun j hj _ => ⟨hj.1, fun e => by
      rcases hnew j e with h7 | h7
      · exact hj.2.1 h7
      · have := hj.2.2; omega⟩
end Go.Proofs.YtdbnddmncbjobaaGreatDoor

/- The book in plain Lean: words, lines, pages. -/
namespace Go.Proofs.YtdbnddmncbjobaaGreatDoor

structure Wd where
  s : List UInt8
  key : List UInt8
  tb : Int
  nt : Int
deriving DecidableEq, Inhabited
structure Tx where
  paras : List (List Wd)
  notes : List (List Wd)
deriving DecidableEq, Inhabited
structure Ln where
  fr : Int
  un : Int
  gaps : List Int
  nts : List Int
deriving DecidableEq, Inhabited
structure Pg where
  num : Int
  suf : Int
  ent : Int
  ver : Int
  body : List Ln
  nts : List Ln
deriving DecidableEq, Inhabited
structure Se where
  ent : Int
  fz : Bool
  vers : List Int
  texts : List Tx
deriving DecidableEq, Inhabited
structure Bk where
  ms : Int
  ht : Int
  secs : List Se
deriving DecidableEq, Inhabited

/-- The widths of the glyphs from 33 on. -/
def wtab : List Nat := [4, 6, 8, 8, 12, 10, 4, 6, 6, 8, 8, 4, 6, 4, 6, 8, 8, 8, 8, 8, 8, 8, 8, 8, 8, 4, 4, 8, 8, 8, 8, 12, 10, 10, 10, 10, 10, 10, 10, 10, 6, 10, 10, 10, 12, 10, 10, 10, 10, 10, 10, 10, 10, 10, 12, 10, 10, 10, 0, 6, 0, 8, 8, 4, 8, 8, 8, 8, 8, 6, 8, 8, 4, 4, 8, 4, 12, 8, 8, 8, 8, 6, 8, 6, 8, 8, 12, 8, 8, 8, 6, 4, 6, 8]
def widB (c : UInt8) : Int := if c.toNat < 33 ∨ 127 ≤ c.toNat then 0 else (wtab[c.toNat - 33]?.getD 0 : Nat)
def widGo : List UInt8 → Int → Int
  | [], n => n
  | c :: r, n => if widB c = 0 then 0 else widGo r (n + widB c)
def wid (s : List UInt8) : Int := if 40 < s.length then 0 else widGo s 0
def validW (s : List UInt8) : Bool := decide (0 < wid s)

/-- The words of a part, from a number of notes on: the error, or the number of notes. -/
def chkWs (body : Bool) (nn : Int) : List Wd → Int → Int ⊕ Int
  | [], k => .inr k
  | w :: r, k =>
    if !validW w.s || (w.key ≠ [] && !validW w.key) then .inl 7
    else if w.tb ≠ 0 ∧ w.tb ≠ 1 then .inl 5
    else if w.nt ≠ 0 then (if !body ∨ w.nt ≠ k + 1 ∨ nn < k + 1 then .inl 5 else chkWs body nn r (k + 1))
    else chkWs body nn r k
/-- The parts, of which so many are of the body. -/
def chkPs (nn : Int) : Nat → List (List Wd) → Int → Int ⊕ Int
  | _, [], k => .inr k
  | b, p :: ps, k => match chkWs (decide (0 < b)) nn p k with
    | .inl e => .inl e
    | .inr k => chkPs nn (b - 1) ps k
def chkT (t : Tx) : Int :=
  if 100 < t.paras.length ∨ 100 < t.notes.length ∨ (t.paras ++ t.notes).any (fun p => decide (500 < p.length)) = true then 2
  else if (t.paras ++ t.notes).any (fun p => decide (p.length = 0)) = true then 1
  else match chkPs t.notes.length t.paras.length (t.paras ++ t.notes) 0 with
    | .inl e => e
    | .inr k => if k ≠ t.notes.length then 3 else 0

/-- The gap of the words that a line of words takes of a measure. -/
def slackP (ws : List Int) (m : Int) : Int := ws.foldl (fun s w => s - (w + 6)) (m + 6)
/-- The best first line of the words ws: k words stand on it already, s is left; bs: the best ways of what follows. -/
def pk (s : Int) : List Int → List (Int × Nat) → Nat → Int → Nat → Int × Nat
  | w :: r, b :: bs, k, c, e =>
    let s' := s - (w + 6)
    if s' < 0 then (c, e)
    else if r.isEmpty then (0, k + 1)
    else if k = 0 ∨ s' * s' + b.1 ≤ c then pk s' r bs (k + 1) (s' * s' + b.1) (k + 1)
    else pk s' r bs (k + 1) c e
  | _, _, _, c, e => (c, e)
/-- For each number of words from which one goes on: the least cost, and how many words the first line has. -/
def best (m : Int) : List Int → List (Int × Nat)
  | [] => [(0, 0)]
  | w :: r => pk (m + 6) (w :: r) (best m r) 0 0 0 :: best m r
/-- How many words the lines have. -/
def lensF : Nat → List (Int × Nat) → List Nat
  | 0, _ => []
  | f + 1, bs => match bs with
    | [] => []
    | [_] => []
    | b :: bs => b.2 :: lensF f ((b :: bs).drop b.2)
def lens (ws : List Int) (m : Int) : List Nat := lensF ws.length (best m ws)
def gapsGo (s k : Int) : Nat → Int → List Int
  | 0, _ => []
  | n + 1, i => (6 + s.tdiv k + (if i < s.tmod k then 1 else 0)) :: gapsGo s k n (i + 1)
def gapsP (ws : List Int) (m : Int) (last : Bool) : List Int :=
  if last then List.replicate (ws.length - 1) 6 else gapsGo (slackP ws m) ((ws.length - 1 : Nat) : Int) (ws.length - 1) 0
/-- Lines of so many words. -/
def linesGo (m : Int) : List Wd → List Nat → Int → List Ln
  | _, [], _ => []
  | ws, l :: ls, first =>
    ⟨first, first + l, gapsP ((ws.take l).map fun w => wid w.s) m ls.isEmpty, (ws.take l).filterMap fun w => if w.nt ≠ 0 then some (w.nt - 1) else none⟩ :: linesGo m (ws.drop l) ls (first + l)
def setP (ws : List Wd) (first m : Int) : List Ln := linesGo m ws (lens (ws.map fun w => wid w.s) m) first
def setsP (m : Int) : List (List Wd) → Int → List (List Ln)
  | [], _ => []
  | p :: ps, first => setP p first m :: setsP m ps (first + p.length)
/-- The lines of a text: its error, body and notes. -/
def linesT (t : Tx) (m : Int) : Int × List Ln × List (List Ln) :=
  if chkT t ≠ 0 then (chkT t, [], [])
  else if m < 500 ∨ 2000 < m then (5, [], [])
  else (0, (setsP m t.paras 0).flatten, setsP m t.notes (t.paras.map List.length).sum)
/-- The numbers of notes, from next on. -/
def ordN (nn : Int) : List Int → Int → Option Int
  | [], k => some k
  | n :: r, k => if n ≠ k ∨ nn ≤ n then none else ordN nn r (k + 1)
def ordL (nn : Int) : List Ln → Int → Option Int
  | [], k => some k
  | x :: r, k => (ordN nn x.nts k).bind (ordL nn r)
def chkPg (body : List Ln) (notes : List (List Ln)) (h : Int) : Int :=
  if h < 4 ∨ 100 < h then 5
  else if notes.any (fun l => decide (l.length = 0)) = true then 1
  else match ordL notes.length body 0 with
    | none => 12
    | some k => if k < notes.length then 3 else 0
def roomP (h lines shown : Int) : Int := h - lines - shown - min shown 1
def notesOf (notes : List (List Ln)) (x : Ln) : List Ln := x.nts.flatMap fun n => notes[n.toNat]?.getD []
/-- Whether a line fits. -/
def fitsP (h : Int) (q : List Ln) (x : Ln) (lines : Nat) (shown : Int) : Bool :=
  if x.nts = [] then decide (0 < roomP h lines shown) else decide (shown = q.length ∧ 3 - min shown 1 ≤ roomP h lines shown)
/-- How many lines of notes are shown behind a further line, the queue being q'. -/
def showP (h : Int) (q' : List Ln) (lines : Nat) (shown : Int) : Int :=
  if 0 < (q'.length : Int) - shown then shown + min ((q'.length : Int) - shown) (roomP h lines shown - 1 + min shown 1) else shown
/-- A page is filled: how many lines of the body, the queue of notes, how many of them are shown. -/
def fillP (h : Int) (notes : List (List Ln)) : List Ln → List Ln → Nat → Int → Nat × List Ln × Int
  | [], q, lines, shown => (lines, q, shown)
  | x :: r, q, lines, shown =>
    if fitsP h q x lines shown = true then fillP h notes r (q ++ notesOf notes x) (lines + 1) (showP h (q ++ notesOf notes x) (lines + 1) shown)
    else (lines, q, shown)
def setF (h : Int) (notes : List (List Ln)) : Nat → List Ln → List Ln → List (List Ln × List Ln)
  | 0, _, _ => []
  | f + 1, body, q =>
    if body = [] ∧ q = [] then []
    else
      let r := fillP h notes body q 0 (min (q.length : Int) (h - 1))
      (body.take r.1, r.2.1.take r.2.2.toNat) :: setF h notes f (body.drop r.1) (r.2.1.drop r.2.2.toNat)
/-- How many lines are still to be set. -/
def leftP (notes : List (List Ln)) (body q : List Ln) : Nat := q.length + (body.map fun x => 1 + (notesOf notes x).length).sum
def setPg (body : List Ln) (notes : List (List Ln)) (h : Int) : Int × List (List Ln × List Ln) :=
  if chkPg body notes h ≠ 0 then (chkPg body notes h, []) else (0, setF h notes (leftP notes body []) body [])
/-- The pages of a text. -/
def textP (t : Tx) (m h : Int) : Int × List (List Ln × List Ln) :=
  if (linesT t m).1 ≠ 0 then ((linesT t m).1, []) else setPg (linesT t m).2.1 (linesT t m).2.2 h
/-- Pages of a version: their labels go on from n and s. -/
def pagesT (ent ver : Int) (first : Bool) : List (List Ln × List Ln) → Int → Int → List Pg × Int × Int
  | [], n, s => ([], n, s)
  | p :: ps, n, s =>
    let n' := if first then n + 1 else n
    let s' := if first then s else s + 1
    let r := pagesT ent ver first ps n' s'
    (⟨n', s', ent, ver, p.1, p.2⟩ :: r.1, r.2)
def pagesV (m h ent : Int) : List Int → List Tx → Bool → Int → Int → List Pg × Int
  | v :: vs, t :: ts, first, n, s =>
    let a := pagesT ent v first (textP t m h).2 n s
    let b := pagesV m h ent vs ts false a.2.1 a.2.2
    (a.1 ++ b.1, b.2)
  | _, _, _, n, _ => ([], n)
def pagesS (m h : Int) : List Se → Int → List Pg
  | [], _ => []
  | x :: r, n =>
    let a := pagesV m h x.ent x.vers x.texts true n 0
    a.1 ++ pagesS m h r a.2
def pagesB (b : Bk) : List Pg := pagesS b.ms b.ht b.secs 0
/-- The line of a page on which a word stands. -/
def lineAt (word : Int) : List Ln → Nat → Option Nat
  | [], _ => none
  | x :: r, i => if x.fr ≤ word ∧ word < x.un then some (i + 1) else lineAt word r (i + 1)
def whereG (ent ver word : Int) : List Pg → Option (Int × Int × Nat)
  | [] => none
  | p :: r => if p.ent ≠ ent ∨ p.ver ≠ ver then whereG ent ver word r else match lineAt word (p.body ++ p.nts) 0 with
    | some i => some (p.num, p.suf, i)
    | none => whereG ent ver word r
def whereP (b : Bk) (ent ver word : Int) : Option (Int × Int × Nat) := whereG ent ver word (pagesB b)
def pageP (b : Bk) (n s : Int) : Option Pg := (pagesB b).find? fun p => decide (p.num = n ∧ p.suf = s)
def wordsN (ps : List (List Wd)) : Nat := (ps.map List.length).sum
end Go.Proofs.YtdbnddmncbjobaaGreatDoor
