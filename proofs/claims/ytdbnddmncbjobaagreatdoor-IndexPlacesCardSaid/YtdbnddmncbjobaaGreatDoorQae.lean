/- Ways in which plain values lie in memory: numbers, strings, structs, rows of rows. -/
import Derived.Test.YtdbnddmncbjobaaGreatDoorQaa
namespace Go.Proofs.YtdbnddmncbjobaaGreatDoor
section
open Go Go.RowKit

/-- The cells of an element of sz cells. -/
def Cs (sz : Nat) : Type := {cs : List Value // cs.length = sz ∧ ∀ u ∈ cs, u.oneCell' = true}
def ccf {sz : Nat} (c : Cs sz) : List Value := c.1
theorem ccf_len {sz : Nat} (c : Cs sz) : (ccf c).length = sz := c.2.1
theorem ccf_one {sz : Nat} (c : Cs sz) : ∀ u ∈ ccf c, u.oneCell' = true := c.2.2
/-- A way in which values of a type lie in memory: in sz cells, and in further blocks, of which P holds. -/
structure Lay (β : Type) where
  sz : Nat
  rep : World → (Nat → Prop) → β → List Value → Prop
  len : ∀ {W : World} {P : Nat → Prop} {x : β} {cs : List Value}, rep W P x cs → cs.length = sz
  one : ∀ {W : World} {P : Nat → Prop} {x : β} {cs : List Value}, rep W P x cs → ∀ u ∈ cs, u.oneCell' = true
  keep : ∀ {W W' : World} {P : Nat → Prop} {x : β} {cs : List Value}, rep W P x cs → W.heap.size ≤ W'.heap.size → (∀ k, P k → k < W.heap.size → W'.heap[k]? = W.heap[k]?) → rep W' P x cs
  mono : ∀ {W : World} {P Q : Nat → Prop} {x : β} {cs : List Value}, rep W P x cs → (∀ k, P k → k < W.heap.size → Q k) → rep W Q x cs
variable {α β : Type}
theorem Lay.ext (k : Lay β) {W W' : World} {P : Nat → Prop} {x : β} {cs : List Value} (h : k.rep W P x cs) (hx : Ext W W') : k.rep W' P x cs := k.keep h hx.lt fun j _ hj => hx.block j hj
def kInt : Lay Int where
  sz := 1
  rep _ _ n cs := cs = [.int .i64 n]
  len h := by subst h; rfl
  one h := by subst h; intro u hu; simp only [List.mem_singleton] at hu; subst hu; rfl
  keep h _ _ := h
  mono h _ := h
def kBool : Lay Bool where
  sz := 1
  rep _ _ n cs := cs = [.bool n]
  len h := by subst h; rfl
  one h := by subst h; intro u hu; simp only [List.mem_singleton] at hu; subst hu; rfl
  keep h _ _ := h
  mono h _ := h
def kStr : Lay (List UInt8) where
  sz := 1
  rep _ _ s cs := cs = [.string ⟨s.toArray⟩]
  len h := by subst h; rfl
  one h := by subst h; intro u hu; simp only [List.mem_singleton] at hu; subst hu; rfl
  keep h _ _ := h
  mono h _ := h
def Lay.pair (a : Lay α) (b : Lay β) : Lay (α × β) where
  sz := a.sz + b.sz
  rep W P x cs := ∃ ca cb, cs = ca ++ cb ∧ a.rep W P x.1 ca ∧ b.rep W P x.2 cb
  len h := by obtain ⟨ca, cb, rfl, h1, h2⟩ := h; rw [List.length_append, a.len h1, b.len h2]
  one h u hu := by
    obtain ⟨ca, cb, rfl, h1, h2⟩ := h
    rcases List.mem_append.1 hu with hu | hu
    · exact a.one h1 u hu
    · exact b.one h2 u hu
  keep h hs hk := by obtain ⟨ca, cb, e, h1, h2⟩ := h; exact ⟨ca, cb, e, a.keep h1 hs hk, b.keep h2 hs hk⟩
  mono h hq := by obtain ⟨ca, cb, e, h1, h2⟩ := h; exact ⟨ca, cb, e, a.mono h1 hq, b.mono h2 hq⟩
def Lay.via (k : Lay α) (f : β → α) : Lay β where
  sz := k.sz
  rep W P x cs := k.rep W P (f x) cs
  len h := k.len h
  one h := k.one h
  keep h hs hk := k.keep h hs hk
  mono h hq := k.mono h hq
/-- n elements xs lie behind the address A. -/
def Lay.row (k : Lay β) (W : World) (P : Nat → Prop) (A : Option Addr) (n : Nat) (xs : List β) : Prop :=
  ∃ ds : List (Cs k.sz), n = xs.length ∧ ds.length = xs.length ∧ SL ccf k.sz W A n ds ∧ (∀ x, A = some x → P x.block ∧ x.block < W.heap.size) ∧ ∀ (i : Nat) (d : Cs k.sz) (x : β), ds[i]? = some d → xs[i]? = some x → k.rep W P x d.1
theorem Lay.row_len {k : Lay β} {W : World} {P : Nat → Prop} {A : Option Addr} {n : Nat} {xs : List β} (h : k.row W P A n xs) : n = xs.length := h.choose_spec.1
theorem Lay.row_nil (k : Lay β) (W : World) (P : Nat → Prop) : k.row W P none 0 [] := ⟨[], rfl, rfl, SL.nil W, (fun _ h => nomatch h), fun i d x hd => by simp at hd⟩
theorem Lay.row_keep {k : Lay β} {W W' : World} {P : Nat → Prop} {A : Option Addr} {n : Nat} {xs : List β} (h : k.row W P A n xs) (hs : W.heap.size ≤ W'.heap.size) (hk : ∀ j, P j → j < W.heap.size → W'.heap[j]? = W.heap[j]?) : k.row W' P A n xs := by
  obtain ⟨ds, h1, h2, h3, h4, h5⟩ := h
  exact ⟨ds, h1, h2, h3.blocks fun x hx hl => hk _ (h4 x hx).1 hl, fun x hx => ⟨(h4 x hx).1, Nat.lt_of_lt_of_le (h4 x hx).2 hs⟩, fun i d x hd hx => k.keep (h5 i d x hd hx) hs hk⟩
theorem Lay.row_mono {k : Lay β} {W : World} {P Q : Nat → Prop} {A : Option Addr} {n : Nat} {xs : List β} (h : k.row W P A n xs) (hq : ∀ j, P j → j < W.heap.size → Q j) : k.row W Q A n xs := by
  obtain ⟨ds, h1, h2, h3, h4, h5⟩ := h
  exact ⟨ds, h1, h2, h3, fun x hx => ⟨hq _ (h4 x hx).1 (h4 x hx).2, (h4 x hx).2⟩, fun i d x hd hx => k.mono (h5 i d x hd hx) hq⟩
theorem Lay.row_ext {k : Lay β} {W W' : World} {P : Nat → Prop} {A : Option Addr} {n : Nat} {xs : List β} (h : k.row W P A n xs) (hx : Ext W W') : k.row W' P A n xs := Lay.row_keep h hx.lt fun j _ hj => hx.block j hj
/-- The element i: its cells. -/
theorem Lay.row_at {k : Lay β} {W : World} {P : Nat → Prop} {A : Option Addr} {n : Nat} {xs : List β} (h : k.row W P A n xs) {i : Nat} {x : β} (hi : xs[i]? = some x) :
    ∃ b off cs, A = some ⟨b, off, none⟩ ∧ b < W.heap.size ∧ P b ∧ k.rep W P x cs ∧ ∀ j u, cs[j]? = some u → W.cell? ⟨b, off + i * k.sz + j, none⟩ = some u := by
  obtain ⟨ds, h1, h2, h3, h4, h5⟩ := h
  have hl := (List.getElem?_eq_some_iff.1 hi).1
  obtain ⟨b, off, rfl, hb, hc⟩ := h3.2 (by omega)
  obtain ⟨d, hd⟩ : ∃ d, ds[i]? = some d := ⟨_, List.getElem?_eq_getElem (by omega)⟩
  exact ⟨b, off, d.1, rfl, hb, (h4 _ rfl).1, h5 i d x hd hi, fun j u hu => hc i d hd j u hu⟩
/-- The elements from i on. -/
theorem Lay.row_drop {k : Lay β} {W : World} {P : Nat → Prop} {b off : Nat} {n : Nat} {xs : List β} (h : k.row W P (some ⟨b, off, none⟩) n xs) (i : Nat) : k.row W P (some ⟨b, off + i * k.sz, none⟩) (n - i) (xs.drop i) := by
  obtain ⟨ds, h1, h2, h3, h4, h5⟩ := h
  refine ⟨ds.drop i, by simp [h1], by simp [h2], ⟨by simp [h2, h1], fun h0 => ?_⟩, fun x hx => ?_, fun j d x hd hx => ?_⟩
  · obtain ⟨b', off', e, hb, hc⟩ := h3.2 (by omega)
    simp only [Option.some.injEq, Addr.mk.injEq] at e
    obtain ⟨rfl, rfl, _⟩ := e
    refine ⟨b, _, rfl, hb, fun j d hd l u hu => ?_⟩
    rw [List.getElem?_drop] at hd
    have := hc (i + j) d hd l u hu
    rw [Nat.add_mul] at this
    rw [show off + i * k.sz + j * k.sz + l = off + (i * k.sz + j * k.sz) + l by omega]
    exact this
  · injection hx with hx
    subst hx
    exact h4 ⟨b, off, none⟩ rfl
  · rw [List.getElem?_drop] at hd hx
    exact h5 _ d x hd hx
/-- The elements before m. -/
theorem Lay.row_take {k : Lay β} {W : World} {P : Nat → Prop} {A : Option Addr} {n : Nat} {xs : List β} (h : k.row W P A n xs) (m : Nat) (hm : m ≤ n) : k.row W P A m (xs.take m) := by
  obtain ⟨ds, h1, h2, h3, h4, h5⟩ := h
  refine ⟨ds.take m, by simp; omega, by simp [h2], ⟨by simp; omega, fun h0 => ?_⟩, h4, fun j d x hd hx => ?_⟩
  · obtain ⟨b, off, e, hb, hc⟩ := h3.2 (by omega)
    refine ⟨b, off, e, hb, fun j d hd l u hu => ?_⟩
    rw [List.getElem?_take] at hd
    split at hd
    · exact hc j d hd l u hu
    · cases hd
  · rw [List.getElem?_take] at hd hx
    split at hd
    · next hj => rw [if_pos hj] at hx; exact h5 j d x hd hx
    · cases hd
def Lay.list (k : Lay β) : Lay (List β) where
  sz := 1
  rep W P xs cs := ∃ A n c, cs = [.slice A n c] ∧ n ≤ c ∧ k.row W P A n xs
  len h := by obtain ⟨A, n, c, rfl, _⟩ := h; rfl
  one h u hu := by obtain ⟨A, n, c, rfl, _⟩ := h; simp only [List.mem_singleton] at hu; subst hu; rfl
  keep h hs hk := by obtain ⟨A, n, c, e, h1, h2⟩ := h; exact ⟨A, n, c, e, h1, Lay.row_keep h2 hs hk⟩
  mono h hq := by obtain ⟨A, n, c, e, h1, h2⟩ := h; exact ⟨A, n, c, e, h1, Lay.row_mono h2 hq⟩
/-- The slice v holds the elements xs in a row of its own, in a block from base on; what they hold lies in other blocks, of which P holds. -/
def Lay.own (k : Lay β) (e : TypeId) (W : World) (base : Nat) (P : Nat → Prop) (v : Value) (xs : List β) : Prop :=
  ∃ ds : List (Cs k.sz), OL ccf k.sz W base e v ds ∧ ds.length = xs.length ∧ ∀ (i : Nat) (d : Cs k.sz) (x : β), ds[i]? = some d → xs[i]? = some x → k.rep W (fun j => P j ∧ v.ownBlock ≠ some j) x d.1
theorem Lay.own_nil (k : Lay β) (e : TypeId) (W : World) (base : Nat) (P : Nat → Prop) : k.own e W base P (.slice none 0 0) [] := ⟨[], OL.nil W base e, rfl, fun i d x hd => by simp at hd⟩
theorem Lay.own_lt {k : Lay β} {e : TypeId} {W : World} {base : Nat} {P : Nat → Prop} {v : Value} {xs : List β} (h : k.own e W base P v xs) : ∀ j, v.ownBlock = some j → base ≤ j ∧ j < W.heap.size := by
  obtain ⟨ds, h1, _⟩ := h
  exact World.ownsRow.lt h1
theorem Lay.own_keep {k : Lay β} {e : TypeId} {W W' : World} {base : Nat} {P : Nat → Prop} {v : Value} {xs : List β} (h : k.own e W base P v xs) (hs : W.heap.size ≤ W'.heap.size) (hk : ∀ j, (P j ∨ v.ownBlock = some j) → j < W.heap.size → W'.heap[j]? = W.heap[j]?) : k.own e W' base P v xs := by
  have hlt := Lay.own_lt h
  obtain ⟨ds, h1, h2, h3⟩ := h
  exact ⟨ds, OL.keepB h1 fun j hj => hk j (.inr hj) (hlt j hj).2, h2, fun i d x hd hx => k.keep (h3 i d x hd hx) hs fun j hj hl => hk j (.inl hj.1) hl⟩
theorem Lay.own_ext {k : Lay β} {e : TypeId} {W W' : World} {base : Nat} {P : Nat → Prop} {v : Value} {xs : List β} (h : k.own e W base P v xs) (hx : Ext W W') : k.own e W' base P v xs := Lay.own_keep h hx.lt fun j _ hj => hx.block j hj
theorem Lay.own_mono {k : Lay β} {e : TypeId} {W : World} {base : Nat} {P P' : Nat → Prop} {v : Value} {xs : List β} (h : k.own e W base P v xs) (hp : ∀ j, P j → j < W.heap.size → P' j) : k.own e W base P' v xs := by
  obtain ⟨ds, h1, h2, h3⟩ := h
  exact ⟨ds, h1, h2, fun i d x hd hx => k.mono (h3 i d x hd hx) fun j hj hl => ⟨hp j hj.1 hl, hj.2⟩⟩
/-- What is in a row of its own, as a row. -/
theorem Lay.own_row {k : Lay β} {e : TypeId} {W : World} {base : Nat} {P : Nat → Prop} {v : Value} {xs : List β} (h : k.own e W base P v xs) : ∃ A c, v = .slice A xs.length c ∧ xs.length ≤ c ∧ k.row W (fun j => P j ∨ v.ownBlock = some j) A xs.length xs := by
  have hlt := Lay.own_lt h
  obtain ⟨ds, h1, h2, h3⟩ := h
  obtain ⟨A, c, e, hc, hs⟩ := OL.form ccf_len h1
  rw [h2] at e hc hs
  exact ⟨A, c, e, hc, ds, rfl, h2, hs, fun x hx => ⟨.inr (by rw [e, hx]; rfl), (hlt x.block (by rw [e, hx]; rfl)).2⟩, fun i d x hd hx => k.mono (h3 i d x hd hx) fun j hj _ => .inl hj.1⟩
/-- append of further elements, which lie in other blocks of P. -/
theorem Lay.own_append {k : Lay β} {P : Program} {t e : TypeId} {z : Value} {bytes : Nat} (ht : P.underlying t = some (.slice e))
    (hinfo : (P.info? e).map (fun i => (i.zero, i.size, i.bytes)) = some (some z, k.sz, bytes)) (hzs : z.cells.size = k.sz) (hsz : 0 < k.sz) (hby : bytes ≤ 1000)
    {W : World} {base : Nat} {R : Nat → Prop} {v : Value} {xs : List β} (h : k.own e W base R v xs) {A : Option Addr} {m : Nat} {ds' : List (Cs k.sz)} {ys : List β} (hs : SL ccf k.sz W A m ds') (hl : ds'.length = ys.length)
    (hr : ∀ (i : Nat) (d : Cs k.sz) (x : β), ds'[i]? = some d → ys[i]? = some x → k.rep W (fun j => R j ∧ v.ownBlock ≠ some j) x d.1) (c : Nat) (hm : xs.length + m ≤ 100000000) (hbase : base ≤ W.heap.size) :
    ∃ A' c' w', (Builtin.append_ #[t, t] t #[v, .slice A m c]).run P W = .ok (.slice A' (xs.length + m) c') w' ∧ k.own e w' base R (.slice A' (xs.length + m) c') (xs ++ ys) ∧ (∀ B, B ≤ base → Below B W w') ∧
      (∀ j, j < W.heap.size → v.ownBlock ≠ some j → w'.heap[j]? = W.heap[j]?) ∧ W.heap.size ≤ w'.heap.size ∧ (∀ j, (Value.slice A' (xs.length + m) c').ownBlock = some j → v.ownBlock = some j ∨ W.heap.size ≤ j) := by
  obtain ⟨ds, h1, h2, h3⟩ := h
  obtain ⟨rfl, hs⟩ := hs
  obtain ⟨A', c', w', r1, r2, r3, r4, r5⟩ := run_append_src5 (P := P) (t := t) ht hinfo hzs hsz h1 (A := A) (m := ds'.length) (c := c) (news := gcells ccf ds') (gcells_len ccf_len ds')
    (fun h0 => by
      obtain ⟨b, off, rfl, _, hc⟩ := hs h0
      refine ⟨b, off, rfl, fun j u hu => ?_⟩
      have hj : j < ds'.length * k.sz := by rw [← gcells_len (cf := ccf) ccf_len]; exact (List.getElem?_eq_some_iff.1 hu).1
      have hjs : j / k.sz < ds'.length := Nat.div_lt_of_lt_mul (by rw [Nat.mul_comm]; exact hj)
      have e : j = j / k.sz * k.sz + j % k.sz := by rw [Nat.mul_comm]; exact (Nat.div_add_mod j k.sz).symm
      have hmod : j % k.sz < k.sz := Nat.mod_lt _ hsz
      rw [e, gcells_at ccf_len ds' (j / k.sz) _ (List.getElem?_eq_getElem hjs) (j % k.sz) hmod] at hu
      have := hc (j / k.sz) _ (List.getElem?_eq_getElem hjs) (j % k.sz) u hu
      rw [Nat.add_assoc, ← e] at this
      exact this)
    (gcells_one ccf_one ds') (by simp only [maxLen]; omega) (Nat.le_trans (Nat.mul_le_mul (by omega) hby) (by omega : 100000000 * 1000 ≤ _)) hbase
  rw [h2] at r1 r2 r5
  have hkeep : ∀ j, j < W.heap.size → v.ownBlock ≠ some j → w'.heap[j]? = W.heap[j]? := fun j hj hne => r4 j hj (fun a => by rw [h2]; exact ownBlock_of hne a)
  have hsz' : W.heap.size ≤ w'.heap.size := (r3 base (Nat.le_refl _)).size
  have hnew : ∀ j, (Value.slice A' (xs.length + ds'.length) c').ownBlock = some j → v.ownBlock = some j ∨ W.heap.size ≤ j := fun j e => by
    rcases r5 with r5 | r5
    · exact .inl (r5.symm.trans e)
    · rw [r5] at e
      injection e with e; exact .inr (by omega)
  refine ⟨A', c', w', r1, ⟨ds ++ ds', ?_, by simp [h2, hl], fun i d x hd hx => ?_⟩, r3, hkeep, hsz', hnew⟩
  · unfold OL
    rw [List.length_append, h2, gcells_append]
    exact r2
  · have hall : k.rep W (fun j => R j ∧ v.ownBlock ≠ some j) x d.1 := by
      rw [List.getElem?_append] at hd hx
      rw [h2] at hd
      split at hd
      · next hi => rw [if_pos hi] at hx; exact h3 i d x hd hx
      · next hi => rw [if_neg hi] at hx; exact hr _ d x hd hx
    have h4 := k.mono (Q := fun j => R j ∧ v.ownBlock ≠ some j ∧ j < W.heap.size) hall fun j hj hl => ⟨hj.1, hj.2, hl⟩
    exact k.mono (k.keep h4 hsz' fun j hj hl => hkeep j hl hj.2.1) fun j hj _ => ⟨hj.1, fun e => by
      rcases hnew j e with h7 | h7
      · exact hj.2.1 h7
      · have := hj.2.2; omega⟩
end
section

structure Wd where
  s : List UInt8
  key : List UInt8
  tb : Int
  nt : Int
deriving DecidableEq, Inhabited
structure Tx where
  paras : List (List Wd)
  notes : List (List Wd)
deriving DecidableEq, Inhabited
structure Ln where
  fr : Int
  un : Int
  gaps : List Int
  nts : List Int
deriving DecidableEq, Inhabited
structure Pg where
  num : Int
  suf : Int
  ent : Int
  ver : Int
  body : List Ln
  nts : List Ln
deriving DecidableEq, Inhabited
structure Se where
  ent : Int
  fz : Bool
  vers : List Int
  texts : List Tx
deriving DecidableEq, Inhabited
structure Bk where
  ms : Int
  ht : Int
  secs : List Se
deriving DecidableEq, Inhabited

/-- The widths of the glyphs from 33 on. -/
def wtab : List Nat := [4, 6, 8, 8, 12, 10, 4, 6, 6, 8, 8, 4, 6, 4, 6, 8, 8, 8, 8, 8, 8, 8, 8, 8, 8, 4, 4, 8, 8, 8, 8, 12, 10, 10, 10, 10, 10, 10, 10, 10, 6, 10, 10, 10, 12, 10, 10, 10, 10, 10, 10, 10, 10, 10, 12, 10, 10, 10, 0, 6, 0, 8, 8, 4, 8, 8, 8, 8, 8, 6, 8, 8, 4, 4, 8, 4, 12, 8, 8, 8, 8, 6, 8, 6, 8, 8, 12, 8, 8, 8, 6, 4, 6, 8]
def widB (c : UInt8) : Int := if c.toNat < 33 ∨ 127 ≤ c.toNat then 0 else (wtab[c.toNat - 33]?.getD 0 : Nat)
def widGo : List UInt8 → Int → Int
  | [], n => n
  | c :: r, n => if widB c = 0 then 0 else widGo r (n + widB c)
def wid (s : List UInt8) : Int := if 40 < s.length then 0 else widGo s 0
def validW (s : List UInt8) : Bool := decide (0 < wid s)

/-- The words of a part, from a number of notes on: the error, or the number of notes. -/
def chkWs (body : Bool) (nn : Int) : List Wd → Int → Int ⊕ Int
  | [], k => .inr k
  | w :: r, k =>
    if !validW w.s || (w.key ≠ [] && !validW w.key) then .inl 7
    else if w.tb ≠ 0 ∧ w.tb ≠ 1 then .inl 5
    else if w.nt ≠ 0 then (if !body ∨ w.nt ≠ k + 1 ∨ nn < k + 1 then .inl 5 else chkWs body nn r (k + 1))
    else chkWs body nn r k
/-- The parts, of which so many are of the body. -/
def chkPs (nn : Int) : Nat → List (List Wd) → Int → Int ⊕ Int
  | _, [], k => .inr k
  | b, p :: ps, k => match chkWs (decide (0 < b)) nn p k with
    | .inl e => .inl e
    | .inr k => chkPs nn (b - 1) ps k
def chkT (t : Tx) : Int :=
  if 100 < t.paras.length ∨ 100 < t.notes.length ∨ (t.paras ++ t.notes).any (fun p => decide (500 < p.length)) = true then 2
  else if (t.paras ++ t.notes).any (fun p => decide (p.length = 0)) = true then 1
  else match chkPs t.notes.length t.paras.length (t.paras ++ t.notes) 0 with
    | .inl e => e
    | .inr k => if k ≠ t.notes.length then 3 else 0

/-- The gap of the words that a line of words takes of a measure. -/
def slackP (ws : List Int) (m : Int) : Int := ws.foldl (fun s w => s - (w + 6)) (m + 6)
/-- The best first line of the words ws: k words stand on it already, s is left; bs: the best ways of what follows. -/
def pk (s : Int) : List Int → List (Int × Nat) → Nat → Int → Nat → Int × Nat
  | w :: r, b :: bs, k, c, e =>
    let s' := s - (w + 6)
    if s' < 0 then (c, e)
    else if r.isEmpty then (0, k + 1)
    else if k = 0 ∨ s' * s' + b.1 ≤ c then pk s' r bs (k + 1) (s' * s' + b.1) (k + 1)
    else pk s' r bs (k + 1) c e
  | _, _, _, c, e => (c, e)
/-- For each number of words from which one goes on: the least cost, and how many words the first line has. -/
def best (m : Int) : List Int → List (Int × Nat)
  | [] => [(0, 0)]
  | w :: r => pk (m + 6) (w :: r) (best m r) 0 0 0 :: best m r
/-- How many words the lines have. -/
def lensF : Nat → List (Int × Nat) → List Nat
  | 0, _ => []
  | f + 1, bs => match bs with
    | [] => []
    | [_] => []
    | b :: bs => b.2 :: lensF f ((b :: bs).drop b.2)
def lens (ws : List Int) (m : Int) : List Nat := lensF ws.length (best m ws)
def gapsGo (s k : Int) : Nat → Int → List Int
  | 0, _ => []
  | n + 1, i => (6 + s.tdiv k + (if i < s.tmod k then 1 else 0)) :: gapsGo s k n (i + 1)
def gapsP (ws : List Int) (m : Int) (last : Bool) : List Int :=
  if last then List.replicate (ws.length - 1) 6 else gapsGo (slackP ws m) ((ws.length - 1 : Nat) : Int) (ws.length - 1) 0
/-- Lines of so many words. -/
def linesGo (m : Int) : List Wd → List Nat → Int → List Ln
  | _, [], _ => []
  | ws, l :: ls, first =>
    ⟨first, first + l, gapsP ((ws.take l).map fun w => wid w.s) m ls.isEmpty, (ws.take l).filterMap fun w => if w.nt ≠ 0 then some (w.nt - 1) else none⟩ :: linesGo m (ws.drop l) ls (first + l)
def setP (ws : List Wd) (first m : Int) : List Ln := linesGo m ws (lens (ws.map fun w => wid w.s) m) first
def setsP (m : Int) : List (List Wd) → Int → List (List Ln)
  | [], _ => []
  | p :: ps, first => setP p first m :: setsP m ps (first + p.length)
/-- The lines of a text: its error, body and notes. -/
def linesT (t : Tx) (m : Int) : Int × List Ln × List (List Ln) :=
  if chkT t ≠ 0 then (chkT t, [], [])
  else if m < 500 ∨ 2000 < m then (5, [], [])
  else (0, (setsP m t.paras 0).flatten, setsP m t.notes (t.paras.map List.length).sum)
/-- The numbers of notes, from next on. -/
def ordN (nn : Int) : List Int → Int → Option Int
  | [], k => some k
  | n :: r, k => if n ≠ k ∨ nn ≤ n then none else ordN nn r (k + 1)
def ordL (nn : Int) : List Ln → Int → Option Int
  | [], k => some k
  | x :: r, k => (ordN nn x.nts k).bind (ordL nn r)
def chkPg (body : List Ln) (notes : List (List Ln)) (h : Int) : Int :=
  if h < 4 ∨ 100 < h then 5
  else if notes.any (fun l => decide (l.length = 0)) = true then 1
  else match ordL notes.length body 0 with
    | none => 12
    | some k => if k < notes.length then 3 else 0
def roomP (h lines shown : Int) : Int := h - lines - shown - min shown 1
def notesOf (notes : List (List Ln)) (x : Ln) : List Ln := x.nts.flatMap fun n => notes[n.toNat]?.getD []
/-- Whether a line fits. -/
def fitsP (h : Int) (q : List Ln) (x : Ln) (lines : Nat) (shown : Int) : Bool :=
  if x.nts = [] then decide (0 < roomP h lines shown) else decide (shown = q.length ∧ 3 - min shown 1 ≤ roomP h lines shown)
/-- How many lines of notes are shown behind a further line, the queue being q'. -/
def showP (h : Int) (q' : List Ln) (lines : Nat) (shown : Int) : Int :=
  if 0 < (q'.length : Int) - shown then shown + min ((q'.length : Int) - shown) (roomP h lines shown - 1 + min shown 1) else shown
/-- A page is filled: how many lines of the body, the queue of notes, how many of them are shown. -/
def fillP (h : Int) (notes : List (List Ln)) : List Ln → List Ln → Nat → Int → Nat × List Ln × Int
  | [], q, lines, shown => (lines, q, shown)
  | x :: r, q, lines, shown =>
    if fitsP h q x lines shown = true then fillP h notes r (q ++ notesOf notes x) (lines + 1) (showP h (q ++ notesOf notes x) (lines + 1) shown)
    else (lines, q, shown)
def setF (h : Int) (notes : List (List Ln)) : Nat → List Ln → List Ln → List (List Ln × List Ln)
  | 0, _, _ => []
  | f + 1, body, q =>
    if body = [] ∧ q = [] then []
    else
      let r := fillP h notes body q 0 (min (q.length : Int) (h - 1))
      (body.take r.1, r.2.1.take r.2.2.toNat) :: setF h notes f (body.drop r.1) (r.2.1.drop r.2.2.toNat)
/-- How many lines are still to be set. -/
def leftP (notes : List (List Ln)) (body q : List Ln) : Nat := q.length + (body.map fun x => 1 + (notesOf notes x).length).sum
def setPg (body : List Ln) (notes : List (List Ln)) (h : Int) : Int × List (List Ln × List Ln) :=
  if chkPg body notes h ≠ 0 then (chkPg body notes h, []) else (0, setF h notes (leftP notes body []) body [])
/-- The pages of a text. -/
def textP (t : Tx) (m h : Int) : Int × List (List Ln × List Ln) :=
  if (linesT t m).1 ≠ 0 then ((linesT t m).1, []) else setPg (linesT t m).2.1 (linesT t m).2.2 h
/-- Pages of a version: their labels go on from n and s. -/
def pagesT (ent ver : Int) (first : Bool) : List (List Ln × List Ln) → Int → Int → List Pg × Int × Int
  | [], n, s => ([], n, s)
  | p :: ps, n, s =>
    let n' := if first then n + 1 else n
    let s' := if first then s else s + 1
    let r := pagesT ent ver first ps n' s'
    (⟨n', s', ent, ver, p.1, p.2⟩ :: r.1, r.2)
def pagesV (m h ent : Int) : List Int → List Tx → Bool → Int → Int → List Pg × Int
  | v :: vs, t :: ts, first, n, s =>
    let a := pagesT ent v first (textP t m h).2 n s
    let b := pagesV m h ent vs ts false a.2.1 a.2.2
    (a.1 ++ b.1, b.2)
  | _, _, _, n, _ => ([], n)
def pagesS (m h : Int) : List Se → Int → List Pg
  | [], _ => []
  | x :: r, n =>
    let a := pagesV m h x.ent x.vers x.texts true n 0
    a.1 ++ pagesS m h r a.2
def pagesB (b : Bk) : List Pg := pagesS b.ms b.ht b.secs 0
/-- The line of a page on which a word stands. -/
def lineAt (word : Int) : List Ln → Nat → Option Nat
  | [], _ => none
  | x :: r, i => if x.fr ≤ word ∧ word < x.un then some (i + 1) else lineAt word r (i + 1)
def whereG (ent ver word : Int) : List Pg → Option (Int × Int × Nat)
  | [] => none
  | p :: r => if p.ent ≠ ent ∨ p.ver ≠ ver then whereG ent ver word r else match lineAt word (p.body ++ p.nts) 0 with
    | some i => some (p.num, p.suf, i)
    | none => whereG ent ver word r
def whereP (b : Bk) (ent ver word : Int) : Option (Int × Int × Nat) := whereG ent ver word (pagesB b)
def pageP (b : Bk) (n s : Int) : Option Pg := (pagesB b).find? fun p => decide (p.num = n ∧ p.suf = s)
def wordsN (ps : List (List Wd)) : Nat := (ps.map List.length).sum
end
section

theorem widB_bd (c : UInt8) : 0 ≤ widB c ∧ widB c ≤ 12 := by
  unfold widB
  split
  · omega
  · have : ∀ i : Nat, (wtab[i]?.getD 0) ≤ 12 := fun i => by
      cases h : wtab[i]? with
      | none => simp
      | some v =>
        have hm := List.mem_of_getElem? h
        have : ∀ v ∈ wtab, v ≤ 12 := by decide
        simpa using this v hm
    have := this (c.toNat - 33)
    omega
theorem widGo_bd (s : List UInt8) : ∀ n : Int, 0 ≤ n → 0 ≤ widGo s n ∧ widGo s n ≤ n + 12 * s.length := by
  induction s with
  | nil => intro n hn; simp [widGo]; omega
  | cons c r ih =>
    intro n hn
    have := widB_bd c
    simp only [widGo, List.length_cons]
    split
    · omega
    · have := ih (n + widB c) (by omega)
      omega
theorem wid_bd (s : List UInt8) : 0 ≤ wid s ∧ wid s ≤ 480 := by
  unfold wid
  split
  · omega
  · have := widGo_bd s 0 (Int.le_refl _)
    omega
theorem best_len (m : Int) (ws : List Int) : (best m ws).length = ws.length + 1 := by
  induction ws with
  | nil => rfl
  | cons w r ih => simp [best, ih]
theorem best_drop (m : Int) (ws : List Int) (i : Nat) (hi : i ≤ ws.length) : (best m ws).drop i = best m (ws.drop i) := by
  induction ws generalizing i with
  | nil => obtain rfl : i = 0 := by simpa using hi
           rfl
  | cons w r ih =>
    cases i with
    | zero => rfl
    | succ i => simp only [best, List.drop_succ_cons]; exact ih i (by simpa using hi)
/-- The widths are those of words, and fit into a measure. -/
def Wds (ws : List Int) : Prop := ∀ w ∈ ws, 0 ≤ w ∧ w ≤ 480
theorem wds_of (ws : List Wd) : Wds (ws.map fun w => wid w.s) := fun x hx => by
  obtain ⟨w, _, rfl⟩ := List.mem_map.1 hx
  exact wid_bd _
theorem Wds.tail {w : Int} {r : List Int} (h : Wds (w :: r)) : Wds r := fun x hx => h x (List.mem_cons_of_mem _ hx)
theorem pk_bd (ws : List Int) : ∀ (s : Int) (bs : List (Int × Nat)) (k : Nat) (c : Int) (e : Nat), (1 ≤ e ∧ e ≤ k ∨ k = 0 ∧ ∃ w r b l, ws = w :: r ∧ bs = b :: l ∧ 0 ≤ s - (w + 6)) → bs.length = ws.length →
    1 ≤ (pk s ws bs k c e).2 ∧ (pk s ws bs k c e).2 ≤ k + ws.length := by
  induction ws with
  | nil =>
    intro s bs k c e h hl
    rcases h with h | ⟨_, w, r, b, l, h, _⟩
    · cases bs with
      | nil => simp [pk]; omega
      | cons b l => simp at hl
    · cases h
  | cons w r ih =>
    intro s bs k c e h hl
    cases bs with
    | nil => simp at hl
    | cons b l =>
      simp only [pk]
      by_cases h1 : s - (w + 6) < 0
      · rw [if_pos h1]
        rcases h with h | ⟨_, w', r', b', l', h2, _, h3⟩
        · simp; omega
        · simp at h2; omega
      rw [if_neg h1]
      by_cases h2 : r.isEmpty = true
      · rw [if_pos h2]; simp
      rw [if_neg h2]
      by_cases h3 : k = 0 ∨ (s - (w + 6)) * (s - (w + 6)) + b.1 ≤ c
      · rw [if_pos h3]
        have := ih (s - (w + 6)) l (k + 1) ((s - (w + 6)) * (s - (w + 6)) + b.1) (k + 1) (.inl ⟨by omega, by omega⟩) (by simpa using hl)
        simp only [List.length_cons]; omega
      · rw [if_neg h3]
        have := ih (s - (w + 6)) l (k + 1) c e (.inl ⟨by omega, by omega⟩) (by simpa using hl)
        simp only [List.length_cons]; omega
theorem best_bd {m : Int} (hm : 500 ≤ m) {w : Int} {r : List Int} (h : Wds (w :: r)) : ∃ b l, best m (w :: r) = b :: l ∧ 1 ≤ b.2 ∧ b.2 ≤ r.length + 1 := by
  refine ⟨_, _, rfl, ?_⟩
  have hl := best_len m r
  cases hb : best m r with
  | nil => rw [hb] at hl; simp at hl
  | cons b l =>
    have h1 := h w (by simp)
    have := pk_bd (w :: r) (m + 6) (b :: l) 0 0 0 (.inr ⟨rfl, w, r, b, l, rfl, rfl, by omega⟩) (by rw [hb] at hl; simpa using hl)
    simpa using this
/-- The costs are small. -/
theorem pk_cost (M : Int) (hM : 0 ≤ M) (ws : List Int) : ∀ (s : Int) (bs : List (Int × Nat)) (k : Nat) (c : Int) (e : Nat), Wds ws → s ≤ M + 6 → 0 ≤ c → c ≤ M * M * (k + ws.length + 1 : Nat) → (∀ (i : Nat) b, bs[i]? = some b → 0 ≤ b.1 ∧ b.1 ≤ M * M * (ws.length - i : Nat)) →
    0 ≤ (pk s ws bs k c e).1 ∧ (pk s ws bs k c e).1 ≤ M * M * (k + ws.length + 1 : Nat) := by
  have hMM : 0 ≤ M * M := Int.mul_nonneg hM hM
  induction ws with
  | nil => intro s bs k c e _ _ h0 h1 _; cases bs <;> simp only [pk] <;> exact ⟨h0, h1⟩
  | cons w r ih =>
    intro s bs k c e hw hs h0 h1 hb
    cases bs with
    | nil => simp only [pk]; exact ⟨h0, h1⟩
    | cons b l =>
      have hw1 := hw w (by simp)
      have hb0 := hb 0 b rfl
      simp only [pk]
      by_cases h2 : s - (w + 6) < 0
      · rw [if_pos h2]; exact ⟨h0, h1⟩
      rw [if_neg h2]
      by_cases h3 : r.isEmpty = true
      · rw [if_pos h3]; exact ⟨Int.le_refl _, Int.mul_nonneg hMM (by omega)⟩
      rw [if_neg h3]
      have hsq : 0 ≤ (s - (w + 6)) * (s - (w + 6)) := Int.mul_nonneg (by omega) (by omega)
      have hsq2 : (s - (w + 6)) * (s - (w + 6)) ≤ M * M := Int.mul_le_mul (by omega) (by omega) (by omega) hM
      have hbs : ∀ (i : Nat) b', l[i]? = some b' → 0 ≤ b'.1 ∧ b'.1 ≤ M * M * (r.length - i : Nat) := fun i b' hi => by
        have := hb (i + 1) b' (by simpa using hi)
        rw [show (w :: r).length - (i + 1) = r.length - i by simp] at this
        exact this
      have e1 : (k + (w :: r).length + 1 : Nat) = ((k + 1) + r.length + 1 : Nat) := by simp; omega
      by_cases h4 : k = 0 ∨ (s - (w + 6)) * (s - (w + 6)) + b.1 ≤ c
      · rw [if_pos h4, e1]
        refine ih _ l (k + 1) _ _ hw.tail (by omega) (by omega) ?_ hbs
        have h5 : M * M * ((w :: r).length - 0 : Nat) = M * M * (r.length : Nat) + M * M := by simp only [List.length_cons, Nat.sub_zero, Int.natCast_add, Int.mul_add]; simp
        have h6 : M * M * ((k + 1) + r.length + 1 : Nat) = M * M * (r.length : Nat) + M * M * (k + 2 : Nat) := by rw [← Int.mul_add]; congr 1; omega
        have h7 : M * M * 2 ≤ M * M * (k + 2 : Nat) := Int.mul_le_mul_of_nonneg_left (by omega) hMM
        omega
      · rw [if_neg h4, e1]
        exact ih _ l (k + 1) c e hw.tail (by omega) h0 (by rw [← e1]; exact h1) hbs
theorem best_cost {m : Int} (hm : 0 ≤ m) (ws : List Int) (h : Wds ws) : ∀ (i : Nat) b, (best m ws)[i]? = some b → 0 ≤ b.1 ∧ b.1 ≤ m * m * (ws.length + 1 - i : Nat) := by
  have hMM : 0 ≤ m * m := Int.mul_nonneg hm hm
  induction ws with
  | nil =>
    intro i b hi
    have : b = (0, 0) := by
      cases i with
      | zero => simpa [best] using hi.symm
      | succ i => simp [best] at hi
    subst this
    exact ⟨Int.le_refl _, Int.mul_nonneg hMM (by omega)⟩
  | cons w r ih =>
    intro i b hi
    have ih := ih h.tail
    cases i with
    | zero =>
      have hb : b = pk (m + 6) (w :: r) (best m r) 0 0 0 := by simpa [best] using hi.symm
      rw [hb]
      have := pk_cost m hm (w :: r) (m + 6) (best m r) 0 0 0 h (Int.le_refl _) (Int.le_refl _) (Int.mul_nonneg hMM (by omega)) (fun i b hi => by simpa using ih i b hi)
      simpa using this
    | succ i =>
      have := ih i b (by simpa [best] using hi)
      rw [show (w :: r).length + 1 - (i + 1) = r.length + 1 - i by simp]
      exact this
theorem lensF_ok {m : Int} (hm : 500 ≤ m) : ∀ (f : Nat) (ws : List Int), Wds ws → ws.length ≤ f → (∀ l ∈ lensF f (best m ws), 1 ≤ l) ∧ (lensF f (best m ws)).sum = ws.length
  | 0, ws, _, hf => by
    obtain rfl : ws = [] := List.eq_nil_of_length_eq_zero (by omega)
    simp [lensF]
  | f + 1, [], _, _ => by simp [lensF, best]
  | f + 1, w :: r, hw, hf => by
    obtain ⟨b, l, e, h1, h2⟩ := best_bd hm hw
    obtain ⟨c, l', hl⟩ : ∃ c l', l = c :: l' := by
      have := best_len m (w :: r)
      rw [e] at this
      cases l with
      | nil => simp at this
      | cons c l' => exact ⟨c, l', rfl⟩
    have hd : ((b :: c :: l').drop b.2) = best m ((w :: r).drop b.2) := by rw [← hl, ← e]; exact best_drop m (w :: r) b.2 (by simpa using h2)
    have ih := lensF_ok hm f ((w :: r).drop b.2) (fun x hx => hw x (List.mem_of_mem_drop hx)) (by simp at hf ⊢; omega)
    rw [e, hl]
    simp only [lensF, hd]
    refine ⟨fun x hx => ?_, ?_⟩
    · rcases List.mem_cons.1 hx with hx | hx
      · omega
      · exact ih.1 x hx
    · rw [List.sum_cons, ih.2]; simp; omega
theorem lens_ok {m : Int} (hm : 500 ≤ m) {ws : List Int} (h : Wds ws) : (∀ l ∈ lens ws m, 1 ≤ l) ∧ (lens ws m).sum = ws.length := lensF_ok hm _ ws h (Nat.le_refl _)
theorem lensF_fuel {m : Int} (hm : 500 ≤ m) : ∀ (f g : Nat) (ws : List Int), Wds ws → ws.length ≤ f → ws.length ≤ g → lensF f (best m ws) = lensF g (best m ws)
  | 0, g, ws, _, hf, _ => by
    obtain rfl : ws = [] := List.eq_nil_of_length_eq_zero (by omega)
    cases g <;> simp [lensF, best]
  | f + 1, 0, ws, _, _, hg => by
    obtain rfl : ws = [] := List.eq_nil_of_length_eq_zero (by omega)
    simp [lensF, best]
  | f + 1, g + 1, [], _, _, _ => by simp [lensF, best]
  | f + 1, g + 1, w :: r, hw, hf, hg => by
    obtain ⟨b, l, e, h1, h2⟩ := best_bd hm hw
    obtain ⟨c, l', hl⟩ : ∃ c l', l = c :: l' := by
      have := best_len m (w :: r)
      rw [e] at this
      cases l with
      | nil => simp at this
      | cons c l' => exact ⟨c, l', rfl⟩
    have hd : ((b :: c :: l').drop b.2) = best m ((w :: r).drop b.2) := by rw [← hl, ← e]; exact best_drop m (w :: r) b.2 (by simpa using h2)
    have ih := lensF_fuel hm f g ((w :: r).drop b.2) (fun x hx => hw x (List.mem_of_mem_drop hx)) (by simp at hf ⊢; omega) (by simp at hg ⊢; omega)
    rw [e, hl]
    simp only [lensF, hd, ih]
/-- The lines, one after the other. -/
theorem lens_cons {m : Int} (hm : 500 ≤ m) {ws : List Int} (h : Wds ws) (h0 : ws ≠ []) : ∃ b l, best m ws = b :: l ∧ 1 ≤ b.2 ∧ b.2 ≤ ws.length ∧ lens ws m = b.2 :: lens (ws.drop b.2) m := by
  cases ws with
  | nil => exact absurd rfl h0
  | cons w r =>
    obtain ⟨b, l, e, h1, h2⟩ := best_bd hm h
    obtain ⟨c, l', hl⟩ : ∃ c l', l = c :: l' := by
      have := best_len m (w :: r)
      rw [e] at this
      cases l with
      | nil => simp at this
      | cons c l' => exact ⟨c, l', rfl⟩
    have hd : ((b :: c :: l').drop b.2) = best m ((w :: r).drop b.2) := by rw [← hl, ← e]; exact best_drop m (w :: r) b.2 (by simpa using h2)
    refine ⟨b, l, e, h1, by simpa using h2, ?_⟩
    have hw : Wds ((w :: r).drop b.2) := fun x hx => h x (List.mem_of_mem_drop hx)
    show lensF (r.length + 1) (best m (w :: r)) = _
    rw [e, hl]
    simp only [lensF, hd]
    congr 1
    exact lensF_fuel hm _ _ _ hw (by simp; omega) (Nat.le_refl _)
end
section
open Go Go.RowKit

/-- The table of widths, in every later world. -/
def EnvW (w : World) : Prop := ∀ W, Ext w W → W.var? Tryz.prog "rollbook/glyph.widths" = some (Array.map (fun i : Nat => Value.int .u8 i) wtab.toArray)
theorem EnvW.ext {w W : World} (h : EnvW w) (hx : Ext w W) : EnvW W := fun W' hx' => h W' (hx.trans hx')
theorem ret_i {a b : Int} (h : a = b) : Ending.returned (.int .i64 a) = .returned (.int .i64 b) := by rw [h]
theorem wtab_cell {w : World} (hL : EnvW w) (i : Nat) (hi : i < 94) : w.cell? ⟨4, i, none⟩ = some (.int .u8 ((wtab[i]?.getD 0 : Nat) : Int)) := by
  have hv := hL w (Ext.refl w)
  have hg : Tryz.prog.globalNamed "rollbook/glyph.widths" = some 4 := by kernel_rfl
  have h := World.var?_cell hg hv i
  rw [h]
  have hl : i < wtab.length := hi
  simp [List.getElem?_eq_getElem hl]
set_option maxHeartbeats 4000000 in
set_option maxRecDepth 100000 in
theorem gwidth_any (c : UInt8) (w : World) (hL : EnvW w) : Calls Tryz.prog 239 #[.int .u8 c.toNat] w (fun e w' => e = .returned (.int .i64 (widB c)) ∧ w' = w) := by
  have hc := c.toNat_lt
  by_cases h1 : c.toNat < 33
  · have h1' : (c.toNat : Int) < 33 := by omega
    have HE := Lib.hid (show widB c = 0 by unfold widB; rw [if_pos (.inl h1)])
    go_enter Tryz.func239, Tryz.ntmps239
    go_wp2
    go_ret
    exact ⟨ret_i HE.out.symm, rfl⟩
  have h1' : ¬ (c.toNat : Int) < 33 := by omega
  by_cases h2 : 127 ≤ c.toNat
  · have h2' : (127 : Int) ≤ (c.toNat : Int) := by omega
    have HE := Lib.hid (show widB c = 0 by unfold widB; rw [if_pos (.inr h2)])
    go_enter Tryz.func239, Tryz.ntmps239
    go_wp2
    go_ret
    exact ⟨ret_i HE.out.symm, rfl⟩
  have h2' : ¬ (127 : Int) ≤ (c.toNat : Int) := by omega
  obtain ⟨k, hk⟩ : ∃ k, k = c.toNat - 33 := ⟨_, rfl⟩
  have hcell := wtab_cell hL k (by omega)
  obtain ⟨v, hv⟩ : ∃ v, v = wtab[k]?.getD 0 := ⟨_, rfl⟩
  have hvb : v ≤ 12 := by
    have := (widB_bd c).2
    unfold widB at this
    rw [if_neg (by omega), ← hk, ← hv] at this
    omega
  have HE := Lib.hid (show widB c = (v : Int) by unfold widB; rw [if_neg (by omega), ← hk, ← hv])
  rw [← hv] at hcell
  have e1 : c.toNat = k + 33 := by omega
  rw [e1] at h1' h2' hc ⊢
  clear hv hk hL e1 h1 h2
  go_enter Tryz.func239, Tryz.ntmps239
  go_wp2
  go_ret
  exact ⟨ret_i HE.out.symm, rfl⟩
end
end Go.Proofs.YtdbnddmncbjobaaGreatDoor