/- What all walks of this claim share: worlds that grow; labels and citations as plain data. -/
import Derived.WalkKit
import Derived.WalkSpells
import Derived.WalkSmall
import Derived.Below
import Derived.Lib.Hide
import Derived.Test.YtdbnddmncbjobaaGreatDoorProg
import Derived.Maps.AppendAt
import Derived.WalkLawsBesides
import Derived.IntWalk
namespace Go.Proofs.YtdbnddmncbjobaaGreatDoor
section
open Go Go.RowKit

/-- w' is w with new blocks alone: every block that was there is as it was. A name of its own, so that no simp opens it. -/
def Ext (w w' : World) : Prop := Below w.heap.size w w'
theorem Ext.refl (w : World) : Ext w w := Below.refl _ _
theorem Ext.trans {a b c : World} (h : Ext a b) (k : Ext b c) : Ext a c := Below.trans h (Below.mono k h.size)
theorem Ext.alloc {a w : World} (h : Ext a w) (o : Obj) : Ext a (w.alloc o) := Below.alloc h h.size o
theorem Ext.drewN {a w : World} (h : Ext a w) (n : Nat) : Ext a (w.drewN n) := below_drewN h n
theorem Ext.drew {a w : World} (h : Ext a w) : Ext a w.drew := Below.drew h
theorem Ext.lt {a w : World} (h : Ext a w) : a.heap.size ≤ w.heap.size := h.size
theorem Ext.cells {w w1 : World} (hb : Ext w w1) : (∀ b o, b < w.heap.size → w1.cell? ⟨b, o, none⟩ = w.cell? ⟨b, o, none⟩) ∧ (∀ b o, b < w.heap.size → w1.frozen? ⟨b, o, none⟩ = w.frozen? ⟨b, o, none⟩) :=
  ⟨fun b o h => hb.cell (p := ⟨b, o, none⟩) h, fun b o h => hb.frozen (p := ⟨b, o, none⟩) h⟩

/-- A citation as plain data: branch, number, suffix, line. -/
structure Ct where
  br : Int
  nu : Int
  su : Int
  li : Int
def labB (n s : Int) : Bool := decide (1 ≤ n) && (decide (n ≤ 16384) && (decide (0 ≤ s) && decide (s ≤ 16384)))
def labE (n s : Int) : Int := if labB n s then 0 else 5
def citB (c : Ct) : Bool := decide (0 ≤ c.br) && (decide (c.br < 256) && (decide (1 ≤ c.li) && (decide (c.li ≤ 100) && labB c.nu c.su)))

theorem labE_bad {n s : Int} (h : n < 1 ∨ 16384 < n ∨ s < 0 ∨ 16384 < s) : labE n s = 5 := by
  unfold labE labB
  rw [if_neg]
  simp; omega
theorem labE_ok {n s : Int} (h1 : ¬ n < 1) (h2 : ¬ 16384 < n) (h3 : ¬ s < 0) (h4 : ¬ 16384 < s) : labE n s = 0 := by
  unfold labE labB
  rw [if_pos]
  simp; omega
theorem ret_int {a b : Int} (h : a = b) : Ending.returned (.int .i64 a) = .returned (.int .i64 b) := by rw [h]

def LabPost (n s : Int) (w : World) (e : Ending) (w' : World) : Prop := e = .returned (.int .i64 (labE n s)) ∧ Ext w w'
theorem chk_any (n s : Int) (w : World) : Calls Tryz.prog 138 #[.agg #[.int .i64 n, .int .i64 s]] w (LabPost n s w) := by
  by_cases h1 : n < 1
  · have hf := labE_bad (s := s) (.inl h1)
    have HF := Lib.hid hf; clear hf
    go_enter Tryz.func138, Tryz.ntmps138
    go_wp2
    go_ret
    exact ⟨ret_int (by rw [HF.out]), (Ext.refl _).alloc _⟩
  · by_cases h2 : 16384 < n
    · have hf := labE_bad (s := s) (.inr (.inl h2))
      have HF := Lib.hid hf; clear hf
      go_enter Tryz.func138, Tryz.ntmps138
      go_wp2
      go_ret
      exact ⟨ret_int (by rw [HF.out]), (Ext.refl _).alloc _⟩
    · by_cases h3 : s < 0
      · have hf := labE_bad (n := n) (.inr (.inr (.inl h3)))
        have HF := Lib.hid hf; clear hf
        go_enter Tryz.func138, Tryz.ntmps138
        go_wp2
        go_ret
        exact ⟨ret_int (by rw [HF.out]), (Ext.refl _).alloc _⟩
      · by_cases h4 : 16384 < s
        · have hf := labE_bad (n := n) (.inr (.inr (.inr h4)))
          have HF := Lib.hid hf; clear hf
          go_enter Tryz.func138, Tryz.ntmps138
          go_wp2
          go_ret
          exact ⟨ret_int (by rw [HF.out]), (Ext.refl _).alloc _⟩
        · have hf := labE_ok h1 h2 h3 h4
          have HF := Lib.hid hf; clear hf
          go_enter Tryz.func138, Tryz.ntmps138
          go_wp2
          go_ret
          exact ⟨ret_int (by rw [HF.out]), (Ext.refl _).alloc _⟩
end
section
open Go Go.RowKit

theorem own_form {w : World} {base : Nat} {e : TypeId} {size : Nat} {v : Value} {n : Nat} {xs : List Value} (h : w.ownsRow base e size v n xs) :
    ∃ A c, v = .slice A n c ∧ n ≤ c ∧ (A = none ∧ n = 0 ∧ c = 0 ∨ ∃ g, A = some ⟨g, 0, none⟩ ∧ base ≤ g ∧ g < w.heap.size ∧ ∀ j u, xs[j]? = some u → w.cell? ⟨g, j, none⟩ = some u) := by
  rcases h.2 with ⟨rfl, rfl⟩ | ⟨g, cap, cur, rfl, hb, hg, hn, _, _, _⟩
  · exact ⟨none, 0, rfl, Nat.le_refl _, .inl ⟨rfl, rfl, rfl⟩⟩
  · refine ⟨some ⟨g, 0, none⟩, cap, rfl, hn, .inr ⟨g, rfl, hb, lt_of_block hg, fun j u hu => ?_⟩⟩
    have := h.cells (g := g) rfl j u hu
    rwa [Addr.add_lit, Nat.zero_add] at this
/-- append onto a row of the call's own: the source is nil, or its cells are known. -/
theorem run_append_src5 {P : Program} {w : World} {base : Nat} {t e : TypeId} {z : Value} {size bytes : Nat} (ht : P.underlying t = some (.slice e)) (hinfo : (P.info? e).map (fun i => (i.zero, i.size, i.bytes)) = some (some z, size, bytes))
    (hzs : z.cells.size = size) (hsz : 0 < size) {v : Value} {n : Nat} {xs : List Value} (hown : w.ownsRow base e size v n xs) {A : Option Addr} {m c : Nat} {news : List Value} (hl : news.length = m * size)
    (hA : 0 < m → ∃ b off, A = some ⟨b, off, none⟩ ∧ ∀ j u, news[j]? = some u → w.cell? ⟨b, off + j, none⟩ = some u) (h1 : ∀ u ∈ news, u.oneCell' = true)
    (h63 : n + m ≤ maxLen) (hbytes : (n + m) * bytes ≤ 140737488355328) (hbase : base ≤ w.heap.size) :
    ∃ A' c' w', (Builtin.append_ #[t, t] t #[v, .slice A m c]).run P w = .ok (.slice A' (n + m) c') w' ∧ w'.ownsRow base e size (.slice A' (n + m) c') (n + m) (xs ++ news) ∧ (∀ B, B ≤ base → Below B w w') ∧
      (∀ k, k < w.heap.size → (∀ a, v ≠ .slice (some ⟨k, 0, none⟩) n a) → w'.heap[k]? = w.heap[k]?) ∧ ((Value.slice A' (n + m) c').ownBlock = v.ownBlock ∨ (Value.slice A' (n + m) c').ownBlock = some w.heap.size) := by
  obtain ⟨i, hi, hz, hs, hb⟩ := info_parts hinfo
  have fin : ∀ v' w', w'.ownsRow base e size v' (n + m) (xs ++ news) → w.grownBy w' v.ownBlock → (v'.ownBlock = v.ownBlock ∨ v'.ownBlock = some w.heap.size) → (Builtin.append_ #[t, t] t #[v, .slice A m c]).run P w = .ok v' w' →
      ∃ A' c' w', (Builtin.append_ #[t, t] t #[v, .slice A m c]).run P w = .ok (.slice A' (n + m) c') w' ∧ w'.ownsRow base e size (.slice A' (n + m) c') (n + m) (xs ++ news) ∧ (∀ B, B ≤ base → Below B w w') ∧
      (∀ k, k < w.heap.size → (∀ a, v ≠ .slice (some ⟨k, 0, none⟩) n a) → w'.heap[k]? = w.heap[k]?) ∧ ((Value.slice A' (n + m) c').ownBlock = v.ownBlock ∨ (Value.slice A' (n + m) c').ownBlock = some w.heap.size) := by
    intro v' w' h2 h3 h9 h4
    obtain ⟨A', c', rfl, _, _⟩ := own_form h2
    refine ⟨A', c', w', h4, h2, fun B hB => (Below.refl B w).grown h3 (Nat.le_trans hB hbase) (fun k hk => Nat.le_trans hB (hown.lt k hk).1), fun k hk hne => h3.block k hk (fun e => ?_), h9⟩
    rcases hown.2 with ⟨rfl, _⟩ | ⟨g, cap, cur, rfl, _⟩
    · simp [Value.ownBlock] at e
    · simp only [Value.ownBlock, Option.some.injEq] at e
      subst e
      exact hne _ rfl
  by_cases h0 : 0 < m
  · obtain ⟨b, off, rfl, hc⟩ := hA h0
    obtain ⟨v', w', hr, h2, h3, _, h9⟩ := run_append_own_at (P := P) w base t t e i z size bytes ht hi hz hs hb hzs hsz v n xs hown ⟨b, off, none⟩ m c news hl (fun j u hu => by rw [Addr.add_lit]; exact hc j u hu) h1 h63 hbytes hbase
    exact fin v' w' h2 h3 h9 hr
  · obtain rfl : m = 0 := by omega
    obtain rfl : news = [] := List.eq_nil_of_length_eq_zero (by simpa using hl)
    rcases A with _ | ad
    · have hr : (Builtin.append_ #[t, t] t #[v, .slice none 0 c]).run P w = .ok v w := by
        rcases hown.2 with ⟨rfl, rfl⟩ | ⟨g, cap, cur, rfl, _, _, hnc, _⟩
        · simp [Builtin.append_, run_underlying ht, sizeOf, typeInfo, hi, Builtin.lenOf, Builtin.firstCells]
        · simp [Builtin.append_, run_underlying ht, sizeOf, typeInfo, hi, Builtin.lenOf, Builtin.firstCells, hnc, storeCells]
      exact fin v w (by simpa using hown) (World.grownBy.refl w _) (.inl rfl) hr
    · obtain ⟨v', w', hr, h2, h3, _, h9⟩ := run_append_own_at (P := P) w base t t e i z size bytes ht hi hz hs hb hzs hsz v n xs hown ad 0 c [] hl (fun j u hu => by simp at hu) h1 h63 hbytes hbase
      exact fin v' w' h2 h3 h9 hr

/-- append, where its run is known. -/
theorem wpList_append_run {P : Program} {w : World} {ops : Array Oper} {rest : List Oper} {o : Oper} {a : Act} {Q : Exit → Act → World → Prop} {s x : Operand} {t : TypeId} {vs vx v' : Value} {w' : World}
    (hr : (Builtin.append_ #[t, t] t #[vs, vx]).run P w = .ok v' w') (hgd : o.guard = none)
    (ho : o.op = .call { callee := .builtin .append, args := #[s, x], argTypes := #[t, t] }) (hty : o.type = t) (hs : a.eval s = vs) (hx : a.eval x = vx)
    (h : wpList P ops Q rest (a.put o.dst v') w') : wpList P ops Q (o :: rest) a w := by
  refine wpList_plain hgd fun _ hK => ?_
  unfold Oper.wp execOp
  simp only [ho, hty, resolve, invoke, builtin, Sem.run_bind, Sem.run_pure, Result.andThen_ok, List.map_toArray, List.map_cons, List.map_nil, hs, hx, hr]
  exact hK _ _ h

section
variable {α : Type} (cf : α → List Value) (sz : Nat)
def gcells (l : List α) : List Value := l.flatMap cf
variable {cf sz}
theorem gcells_len (hcf : ∀ a, (cf a).length = sz) (l : List α) : (gcells cf l).length = l.length * sz := by
  induction l with
  | nil => simp [gcells]
  | cons v l ih => simp only [gcells, List.flatMap_cons, List.length_append] at ih ⊢; rw [ih, hcf, List.length_cons, Nat.succ_mul]; omega
theorem gcells_at (hcf : ∀ a, (cf a).length = sz) (l : List α) : ∀ (i : Nat) (a : α), l[i]? = some a → ∀ j, j < sz → (gcells cf l)[i * sz + j]? = (cf a)[j]? := by
  induction l with
  | nil => intro i a h; simp at h
  | cons v l ih =>
    intro i a h j hj
    simp only [gcells, List.flatMap_cons]
    cases i with
    | zero =>
      obtain rfl : v = a := by simpa using h
      rw [List.getElem?_append_left (by rw [hcf]; omega)]; simp
    | succ i =>
      rw [List.getElem?_append_right (by rw [hcf, Nat.succ_mul]; omega)]
      have e : (i + 1) * sz + j - (cf v).length = i * sz + j := by rw [hcf, Nat.succ_mul]; omega
      rw [e]
      exact ih i a (by simpa using h) j hj
theorem gcells_append (a b : List α) : gcells cf (a ++ b) = gcells cf a ++ gcells cf b := by simp [gcells]
theorem gcells_one (h1 : ∀ a, ∀ u ∈ cf a, u.oneCell' = true) (l : List α) : ∀ u ∈ gcells cf l, u.oneCell' = true := by
  intro u hu
  obtain ⟨v, _, hv⟩ := List.mem_flatMap.1 hu
  exact h1 v u hv
variable (cf sz)
/-- The elements l lie, m of them, behind the address A. -/
def SL (W : World) (A : Option Addr) (m : Nat) (l : List α) : Prop :=
  m = l.length ∧ (0 < m → ∃ b off, A = some ⟨b, off, none⟩ ∧ b < W.heap.size ∧ ∀ i a, l[i]? = some a → ∀ j u, (cf a)[j]? = some u → W.cell? ⟨b, off + i * sz + j, none⟩ = some u)
/-- The slice value v holds the elements l in a row of its own, in a block from base on. -/
def OL (w : World) (base : Nat) (e : TypeId) (v : Value) (l : List α) : Prop := w.ownsRow base e sz v l.length (gcells cf l)
variable {cf sz}
theorem SL.ext {W W' : World} {A : Option Addr} {m : Nat} {l : List α} (h : SL cf sz W A m l) (hx : Ext W W') : SL cf sz W' A m l := by
  refine ⟨h.1, fun h0 => ?_⟩
  obtain ⟨b, off, rfl, hb, hc⟩ := h.2 h0
  obtain ⟨q, _⟩ := hx.cells
  exact ⟨b, off, rfl, Nat.lt_of_lt_of_le hb hx.lt, fun i a hi j u hu => by rw [q _ _ hb]; exact hc i a hi j u hu⟩
theorem SL.nil (W : World) : SL cf sz W none 0 ([] : List α) := ⟨rfl, fun h => absurd h (by omega)⟩
theorem OL.nil (w : World) (base : Nat) (e : TypeId) : OL cf sz w base e (.slice none 0 0) ([] : List α) := World.ownsRow_nil w base e sz
theorem OL.form (hcf : ∀ a, (cf a).length = sz) {w : World} {base : Nat} {e : TypeId} {v : Value} {l : List α} (h : OL cf sz w base e v l) :
    ∃ A c, v = .slice A l.length c ∧ l.length ≤ c ∧ SL cf sz w A l.length l := by
  obtain ⟨A, c, rfl, hc, hh⟩ := own_form h
  refine ⟨A, c, rfl, hc, rfl, fun h0 => ?_⟩
  rcases hh with ⟨_, hn, _⟩ | ⟨g, rfl, hb, hg, hx⟩
  · omega
  · refine ⟨g, 0, rfl, hg, fun i a hi j u hu => ?_⟩
    have hj : j < sz := by rw [← hcf a]; exact (List.getElem?_eq_some_iff.1 hu).1
    have := hx (i * sz + j) u ((gcells_at hcf l i a hi j hj).trans hu)
    simpa [Nat.add_assoc] using this
theorem OL.ext {w w' : World} {base : Nat} {e : TypeId} {v : Value} {l : List α} (h : OL cf sz w base e v l) (hx : Ext w w') : OL cf sz w' base e v l := by
  refine ⟨h.1, ?_⟩
  rcases h.2 with h2 | ⟨g, cap, cur, h1, h2, h3, h4⟩
  · exact .inl h2
  · exact .inr ⟨g, cap, cur, h1, h2, by rw [hx.block g (lt_of_block h3)]; exact h3, h4⟩
theorem OL.append {P : Program} (hcf : ∀ a, (cf a).length = sz) (h1c : ∀ a, ∀ u ∈ cf a, u.oneCell' = true) (hsz : 0 < sz) {t e : TypeId} {z : Value} {bytes : Nat} (ht : P.underlying t = some (.slice e))
    (hinfo : (P.info? e).map (fun i => (i.zero, i.size, i.bytes)) = some (some z, sz, bytes)) (hzs : z.cells.size = sz) (hby : bytes ≤ 1000)
    {w : World} {base : Nat} {v : Value} {l : List α} (h : OL cf sz w base e v l) {A : Option Addr} {m : Nat} {l' : List α} (hs : SL cf sz w A m l') (c : Nat) (hm : l.length + m ≤ 100000000) (hbase : base ≤ w.heap.size) :
    ∃ A' c' w', (Builtin.append_ #[t, t] t #[v, .slice A m c]).run P w = .ok (.slice A' (l.length + m) c') w' ∧ OL cf sz w' base e (.slice A' (l.length + m) c') (l ++ l') ∧ (∀ B, B ≤ base → Below B w w') ∧
      (∀ k, k < w.heap.size → (∀ a, v ≠ .slice (some ⟨k, 0, none⟩) l.length a) → w'.heap[k]? = w.heap[k]?) := by
  obtain ⟨rfl, hs⟩ := hs
  obtain ⟨A', c', w', h1, h2, h3, h4, _⟩ := run_append_src5 (P := P) (t := t) ht hinfo hzs hsz h (A := A) (m := l'.length) (c := c) (news := gcells cf l') (gcells_len hcf l')
    (fun h0 => by
      obtain ⟨b, off, rfl, _, hc⟩ := hs h0
      refine ⟨b, off, rfl, fun j u hu => ?_⟩
      have hj : j < l'.length * sz := by rw [← gcells_len hcf]; exact (List.getElem?_eq_some_iff.1 hu).1
      have hjs : j / sz < l'.length := Nat.div_lt_of_lt_mul (by rw [Nat.mul_comm]; exact hj)
      have e : j = j / sz * sz + j % sz := by rw [Nat.mul_comm]; exact (Nat.div_add_mod j sz).symm
      have hmod : j % sz < sz := Nat.mod_lt _ hsz
      rw [e, gcells_at hcf l' (j / sz) _ (List.getElem?_eq_getElem hjs) (j % sz) hmod] at hu
      have := hc (j / sz) _ (List.getElem?_eq_getElem hjs) (j % sz) u hu
      rw [Nat.add_assoc, ← e] at this
      exact this)
    (gcells_one h1c l') (by simp only [maxLen]; omega) (Nat.le_trans (Nat.mul_le_mul hm hby) (by omega)) hbase
  refine ⟨A', c', w', h1, ?_, h3, h4⟩
  unfold OL
  rw [gcells_append, List.length_append]
  exact h2
theorem SL.one (w : World) (a : α) (cs : Array Value) (hcs : cs.toList = cf a) (t : TypeId) : SL cf sz (w.alloc (.cells cs t)) (some ⟨w.heap.size, 0, none⟩) 1 [a] := by
  refine ⟨rfl, fun _ => ⟨w.heap.size, 0, rfl, by simp, fun i a' hi j u hu => ?_⟩⟩
  obtain rfl : i = 0 := by
    have := (List.getElem?_eq_some_iff.1 hi).1
    simp at this; exact this
  obtain rfl : a = a' := by simpa using hi
  rw [cell_of_row _ w.heap.size _ _ t (0, 0) (heap_alloc_new w _)]
  rw [← hcs] at hu
  simpa using hu
end
end
section
open Go Go.RowKit

theorem Ext.setCell {a w : World} (h : Ext a w) {p : Addr} (hp : a.heap.size ≤ p.block) (u : Value) : Ext a (w.setCell p u) := Below.setCell h hp u
theorem SL.blocks {α : Type} {cf : α → List Value} {sz : Nat} {W W' : World} {A : Option Addr} {m : Nat} {l : List α} (h : SL cf sz W A m l) (hk : ∀ x, A = some x → x.block < W.heap.size → W'.heap[x.block]? = W.heap[x.block]?) : SL cf sz W' A m l := by
  refine ⟨h.1, fun h0 => ?_⟩
  obtain ⟨b, off, e, hb, hc⟩ := h.2 h0
  have he := hk _ e hb
  simp only at he
  refine ⟨b, off, e, ?_, fun i x hx j u hu => ?_⟩
  · have h5 : W.heap[b]? ≠ none := by rw [Array.getElem?_eq_getElem hb]; simp
    rw [← he] at h5
    by_cases h6 : b < W'.heap.size
    · exact h6
    · exact absurd (Array.getElem?_eq_none (by omega)) h5
  · rw [World.cell?_of_block (a := ⟨b, _, none⟩) he]; exact hc i x hx j u hu
/-- Nothing but the block b has turned. -/
structure Mv (b : Nat) (W W' : World) : Prop where
  size : W.heap.size ≤ W'.heap.size
  keep : ∀ k, k ≠ b → k < W.heap.size → W'.heap[k]? = W.heap[k]?
  ext : ∀ w0, w0.heap.size ≤ b → Ext w0 W → Ext w0 W'
theorem Mv.refl (b : Nat) (W : World) : Mv b W W := ⟨Nat.le_refl _, fun _ _ _ => rfl, fun _ _ h => h⟩
theorem Mv.trans {b : Nat} {W W' W'' : World} (h : Mv b W W') (k : Mv b W' W'') : Mv b W W'' :=
  ⟨Nat.le_trans h.size k.size, fun j hj hl => (k.keep j hj (Nat.lt_of_lt_of_le hl h.size)).trans (h.keep j hj hl), fun w0 h0 hx => k.ext w0 h0 (h.ext w0 h0 hx)⟩
theorem Mv.of_ext {b : Nat} {W W' : World} (h : Ext W W') : Mv b W W' := ⟨h.lt, fun k _ hk => h.block k hk, fun _ _ hx => hx.trans h⟩
theorem Mv.set {W : World} {b i : Nat} (u : Value) : Mv b W (W.setCell ⟨b, i, none⟩ u) :=
  ⟨by simp, fun k hk _ => heap_setCell_other W ⟨b, i, none⟩ k u hk, fun w0 h0 hx => hx.setCell (p := ⟨b, i, none⟩) h0 u⟩
theorem Mv.setNew {b : Nat} {W W' : World} (h : Mv b W W') {p : Addr} (hp : W.heap.size ≤ p.block) (u : Value) : Mv b W (W'.setCell p u) :=
  ⟨by simpa using h.size, fun k h1 h2 => (heap_setCell_other W' p k u (by omega)).trans (h.keep k h1 h2), fun w0 h1 h2 => (h.ext w0 h1 h2).setCell (p := p) (Nat.le_trans h2.lt hp) u⟩
theorem ownBlock_of {v : Value} {k n : Nat} (h : v.ownBlock ≠ some k) (a : Nat) : v ≠ .slice (some ⟨k, 0, none⟩) n a := fun e => h (by rw [e]; rfl)
theorem OL.keepB {α : Type} {cf : α → List Value} {sz : Nat} {w w' : World} {B : Nat} {e : TypeId} {v : Value} {l : List α} (h : OL cf sz w B e v l) (hk : ∀ k, v.ownBlock = some k → w'.heap[k]? = w.heap[k]?) : OL cf sz w' B e v l := by
  refine ⟨h.1, ?_⟩
  rcases h.2 with h2 | ⟨g, cap, cur, h1, h2, h3, h4⟩
  · exact .inl h2
  · exact .inr ⟨g, cap, cur, h1, h2, by rw [hk g (by rw [h1]; rfl)]; exact h3, h4⟩
end
section
open Go Go.RowKit

def Ct.val (c : Ct) : Value := .agg #[.int .i64 c.br, .int .i64 c.nu, .int .i64 c.su, .int .i64 c.li]
theorem ret_bool {a b : Bool} (h : a = b) : Ending.returned (.bool a) = .returned (.bool b) := by rw [h]
theorem labE_eq (n s : Int) : labE n s = if labB n s then 0 else 5 := rfl
def BoolPost (b : Bool) (w : World) (e : Ending) (w' : World) : Prop := e = .returned (.bool b) ∧ Ext w w'
theorem citB_no {c : Ct} (h : c.br < 0 ∨ 256 ≤ c.br ∨ c.li < 1 ∨ 100 < c.li ∨ labB c.nu c.su = false) : citB c = false := by
  unfold citB
  rcases h with h | h | h | h | h
  · simp [show ¬ 0 ≤ c.br by omega]
  · simp [show ¬ c.br < 256 by omega]
  · simp [show ¬ 1 ≤ c.li by omega]
  · simp [show ¬ c.li ≤ 100 by omega]
  · simp [h]
theorem citB_yes {c : Ct} (h1 : 0 ≤ c.br) (h2 : c.br < 256) (h3 : 1 ≤ c.li) (h4 : c.li ≤ 100) (h5 : labB c.nu c.su = true) : citB c = true := by
  unfold citB; simp [h1, h2, h3, h4, h5]

set_option maxRecDepth 100000 in
theorem valid_any (c : Ct) (w : World) : Calls Tryz.prog 104 #[c.val] w (BoolPost (citB c) w) := by
  unfold Ct.val
  by_cases h1 : 0 ≤ c.br
  · by_cases h2 : c.br < 256
    · by_cases h3 : 1 ≤ c.li
      · by_cases h4 : c.li ≤ 100
        · cases hl : labB c.nu c.su
          · have hf := citB_no (c := c) (.inr (.inr (.inr (.inr hl))))
            have HF := Lib.hid hf
            have HE := Lib.hid (show labE c.nu c.su = 5 by rw [labE_eq, hl]; rfl)
            clear hf hl
            go_enter Tryz.func104, Tryz.ntmps104
            go_wp2_with (first | (go_at_call 138; refine (chk_any c.nu c.su _).mono ?_; rintro e w1 ⟨rfl, hx⟩; rw [HE.out]))
            go_ret
            exact ⟨ret_bool (by rw [HF.out]), ((Ext.refl _).alloc _).trans hx⟩
          · have hf := citB_yes h1 h2 h3 h4 hl
            have HF := Lib.hid hf
            have HE := Lib.hid (show labE c.nu c.su = 0 by rw [labE_eq, hl]; rfl)
            clear hf hl
            go_enter Tryz.func104, Tryz.ntmps104
            go_wp2_with (first | (go_at_call 138; refine (chk_any c.nu c.su _).mono ?_; rintro e w1 ⟨rfl, hx⟩; rw [HE.out]))
            go_ret
            exact ⟨ret_bool (by rw [HF.out]), ((Ext.refl _).alloc _).trans hx⟩
        · have hf := citB_no (c := c) (.inr (.inr (.inr (.inl (by omega)))))
          have HF := Lib.hid hf; clear hf
          have hd : decide (c.li ≤ 100) = false := decide_eq_false h4
          go_enter Tryz.func104, Tryz.ntmps104
          go_wp2
          go_ret
          exact ⟨ret_bool (by rw [HF.out]), (Ext.refl _).alloc _⟩
      · have hf := citB_no (c := c) (.inr (.inr (.inl (by omega))))
        have HF := Lib.hid hf; clear hf
        have hd : decide (1 ≤ c.li) = false := decide_eq_false h3
        go_enter Tryz.func104, Tryz.ntmps104
        go_wp2
        go_ret
        exact ⟨ret_bool (by rw [HF.out]), (Ext.refl _).alloc _⟩
    · have hf := citB_no (c := c) (.inr (.inl (by omega)))
      have HF := Lib.hid hf; clear hf
      have hd : decide (c.br < 256) = false := decide_eq_false h2
      go_enter Tryz.func104, Tryz.ntmps104
      go_wp2
      go_ret
      exact ⟨ret_bool (by rw [HF.out]), (Ext.refl _).alloc _⟩
  · have hf := citB_no (c := c) (.inl (by omega))
    have HF := Lib.hid hf; clear hf
    have hd : decide (0 ≤ c.br) = false := decide_eq_false h1
    go_enter Tryz.func104, Tryz.ntmps104
    go_wp2
    go_ret
    exact ⟨ret_bool (by rw [HF.out]), (Ext.refl _).alloc _⟩

end
section
open Go Go.RowKit

/-- The letters of a suffix. -/
def lets (u : Nat) : List UInt8 := if _h : u = 0 then [] else lets ((u - 1) / 26) ++ [UInt8.ofNat (97 + (u - 1) % 26)]
termination_by u
decreasing_by omega
theorem lets_zero : lets 0 = [] := by rw [lets, dif_pos rfl]
theorem lets_pos {u : Nat} (h : ¬ u = 0) : lets u = lets ((u - 1) / 26) ++ [UInt8.ofNat (97 + (u - 1) % 26)] := by rw [lets, dif_neg h]
def LetRel (n : Nat) (s k : Value) : Prop := ∃ (u : Nat) (t : ByteArray), u ≤ n ∧ k = .int .i64 u ∧ s = .string t ∧ t.size ≤ n - u ∧ lets u ++ t.data.toList = lets n
def letM (k : Value) : Nat := match k with | .int _ z => z.toNat | _ => 0
theorem let_done {n : Nat} {t : ByteArray} (h : lets 0 ++ t.data.toList = lets n) : t = ⟨(lets n).toArray⟩ := by
  rw [lets_zero, List.nil_append] at h
  rw [← h]
theorem let_step {n u : Nat} {x t : ByteArray} (hu : ¬ u = 0) (h : lets u ++ t.data.toList = lets n) (hx : x.data.toList = [UInt8.ofNat (97 + (u - 1) % 26)]) : lets ((u - 1) / 26) ++ (x ++ t).data.toList = lets n := by
  rw [ByteArray.data_append, Array.toList_append, hx, ← h, lets_pos hu]
  simp
theorem let_size {n u : Nat} {x t : ByteArray} (hu : ¬ u = 0) (hn : u ≤ n) (h : t.size ≤ n - u) (hx : x.data.toList = [UInt8.ofNat (97 + (u - 1) % 26)]) : (x ++ t).size ≤ n - (u - 1) / 26 := by
  have e : x.size = 1 := by have := congrArg List.length hx; simpa using this
  rw [ByteArray.size_append, e]
  omega

end
end Go.Proofs.YtdbnddmncbjobaaGreatDoor