/- page.Set: walked. -/
import Derived.Test.YtdbnddmncbjobaaGreatDoorQap
import Derived.Laws.EntriesVeiled
import Derived.Test.YtdbnddmncbjobaaGreatDoorQaq
namespace Go.Proofs.YtdbnddmncbjobaaGreatDoor
open Go Go.RowKit

/-- A box of one cell. -/
def BX (W : World) (b : Nat) (v : Value) (T : TypeId) : Prop := W.heap[b]? = some (.cells #[v] T (0, 0))
theorem BX.lt {W : World} {b : Nat} {v : Value} {T : TypeId} (h : BX W b v T) : b < W.heap.size := lt_of_block h
theorem BX.cell {W : World} {b : Nat} {v : Value} {T : TypeId} (h : BX W b v T) : W.cell? ⟨b, 0, none⟩ = some v := cell_of h rfl
theorem BX.frozen {W : World} {b : Nat} {v : Value} {T : TypeId} (h : BX W b v T) : W.frozen? ⟨b, 0, none⟩ = false := frozen_of h 0
theorem BX.set {W : World} {b : Nat} {v : Value} {T : TypeId} (h : BX W b v T) (u : Value) : BX (W.setCell ⟨b, 0, none⟩ u) b u T := by
  unfold BX at h ⊢
  rw [heap_setCell_same W b 0 _ T _ h]
  rfl
theorem BX.keep {W W' : World} {b : Nat} {v : Value} {T : TypeId} (h : BX W b v T) (hk : W'.heap[b]? = W.heap[b]?) : BX W' b v T := by
  unfold BX at h ⊢
  rw [hk]; exact h
theorem BX.ext {W W' : World} {b : Nat} {v : Value} {T : TypeId} (h : BX W b v T) (hx : Ext W W') : BX W' b v T := h.keep (hx.block b h.lt)
theorem BX.new (W : World) (v : Value) (T : TypeId) : BX (W.alloc (.cells #[v] T)) W.heap.size v T := heap_alloc_new W _
theorem BX.drew {W : World} {b : Nat} {v : Value} {T : TypeId} (h : BX W b v T) : BX W.drew b v T := h.keep rfl
/-- Two boxes, one after the other. -/
theorem BX.two (W : World) (u v : Value) (T : TypeId) : BX ((W.alloc (.cells #[u] T)).alloc (.cells #[v] T)).drew W.heap.size u T ∧ BX ((W.alloc (.cells #[u] T)).alloc (.cells #[v] T)).drew (W.heap.size + 1) v T ∧ Ext W ((W.alloc (.cells #[u] T)).alloc (.cells #[v] T)).drew := by
  have h := BX.new (W.alloc (.cells #[u] T)) v T
  rw [World.size_alloc] at h
  exact ⟨((BX.new W u T).ext ((Ext.refl _).alloc _)).drew, h.drew, (((Ext.refl W).alloc _).alloc _).drew⟩
/-- A page without a label. -/
def pgOf (p : List Ln × List Ln) : Pg := ⟨0, 0, 0, 0, p.1, p.2⟩
def mlen (W : World) (b : Nat) : Nat := match W.cell? ⟨b, 0, none⟩ with | some (.slice _ n _) => n | _ => 0
theorem mlen_of {W : World} {b : Nat} {A : Option Addr} {n c : Nat} {T : TypeId} (h : BX W b (.slice A n c) T) : mlen W b = n := by
  unfold mlen
  rw [h.cell]
def mint (W : World) (b : Nat) : Nat := match W.cell? ⟨b, 0, none⟩ with | some (.int _ n) => n.toNat | _ => 0
theorem mint_of {W : World} {b : Nat} {n : Int} {T : TypeId} (h : BX W b (.int .i64 n) T) : mint W b = n.toNat := by
  unfold mint
  rw [h.cell]
/-- The lines are in order: their notes are there. -/
def NtsOk (nn : Nat) (body : List Ln) : Prop := ∀ x ∈ body, ∀ m ∈ x.nts, 0 ≤ m ∧ m < (nn : Int)
/-- Lines that can be copied. -/
def LnsB (body : List Ln) : Prop := ∀ x ∈ body, x.gaps.length ≤ 1000000 ∧ x.nts.length ≤ 1000000
theorem leftP_len (notes : List (List Ln)) (body q : List Ln) : body.length ≤ leftP notes body q := by
  unfold leftP
  have : ∀ l : List Ln, l.length ≤ (l.map fun x => 1 + (notesOf notes x).length).sum := fun l => by
    induction l with
    | nil => exact Nat.le_refl _
    | cons a l ih => simp only [List.map_cons, List.sum_cons, List.length_cons]; omega
  have := this body
  omega
/-- The outer loop. -/
def PsO (w : World) (b b3 b5 b10 M : Nat) (h : Int) (notes : List (List Ln)) (all : List (List Ln × List Ln)) (s9 : Value) (W : World) : Prop :=
  ∃ (bd q : List Ln) (o nb cb f : Nat) (qv : Value) (pgs : List (List Ln × List Ln)), nb ≤ cb ∧ BX W b3 (.slice (some ⟨b, o, none⟩) nb cb) 82 ∧ BX W b5 (.int .i64 h) 3 ∧ BX W b10 qv 82 ∧
    kLn.row W (fun j => j < w.heap.size) (some ⟨b, o, none⟩) nb bd ∧ kLn.que 86 W (b10 + 1) (fun j => j < w.heap.size) qv q ∧
    kPg.own 84 W (b10 + 1) (fun j => b10 < j ∧ qv.ownBlock ≠ some j) s9 (pgs.map pgOf) ∧ (∀ j, s9.ownBlock = some j → qv.ownBlock ≠ some j) ∧
    leftP notes bd q ≤ f ∧ all = pgs ++ setF h notes f bd q ∧ leftP notes bd q ≤ M ∧ pgs.length + leftP notes bd q ≤ M ∧ NtsOk notes.length bd ∧ LnsB bd ∧ LnsB q ∧ Ext w W
/-- The inner loop: lines of a page. W0: the world when it begins. -/
structure PsC (w W0 : World) (b10 b11 b12 M : Nat) (h : Int) (notes : List (List Ln)) (bd : List Ln) (r0 : Nat × List Ln × Int) (qv0 : Value) (l : Nat) (s : Int) (q : List Ln) (qv : Value) (W : World) : Prop where
  le : l ≤ bd.length
  fill : FillI h q l s
  eq : fillP h notes (bd.drop l) q l s = r0
  c10 : BX W b10 qv 82
  c11 : BX W b11 (.int .i64 l) 3
  c12 : BX W b12 (.int .i64 s) 3
  que : kLn.que 86 W (b10 + 1) (fun j => j < w.heap.size) qv q
  own : ∀ j, qv.ownBlock = some j → qv0.ownBlock = some j ∨ W0.heap.size ≤ j
  keep : ∀ j, j < W0.heap.size → j ≠ b10 → j ≠ b11 → j ≠ b12 → qv0.ownBlock ≠ some j → W.heap[j]? = W0.heap[j]?
  size : W0.heap.size ≤ W.heap.size
  left : leftP notes (bd.drop l) q ≤ M
  lns : LnsB q
  ext : Ext w W
theorem PsC.drewN {w W0 : World} {b10 b11 b12 M : Nat} {h : Int} {notes : List (List Ln)} {bd : List Ln} {r0 : Nat × List Ln × Int} {qv0 : Value} {l : Nat} {s : Int} {q : List Ln} {qv : Value} {W : World} (c : PsC w W0 b10 b11 b12 M h notes bd r0 qv0 l s q qv W) (k : Nat) : PsC w W0 b10 b11 b12 M h notes bd r0 qv0 l s q qv (W.drewN k) :=
  ⟨c.le, c.fill, c.eq, c.c10.keep (by simp), c.c11.keep (by simp), c.c12.keep (by simp), Lay.que_keep c.que (by simp) fun j _ _ => by simp, c.own, fun j h1 h2 h3 h4 h5 => by rw [World.heap_drewN]; exact c.keep j h1 h2 h3 h4 h5, by simpa using c.size, c.left, c.lns, c.ext.drewN k⟩
def PsI (w W0 : World) (b10 b11 b12 M : Nat) (h : Int) (notes : List (List Ln)) (bd : List Ln) (r0 : Nat × List Ln × Int) (qv0 : Value) (W : World) : Prop :=
  ∃ (l : Nat) (s : Int) (q : List Ln) (qv : Value), PsC w W0 b10 b11 b12 M h notes bd r0 qv0 l s q qv W
/-- What stands in the other boxes, and the body. -/
structure PsB (w W : World) (b o nb cb b3 b11 b12 b13 : Nat) (h : Int) (bd : List Ln) : Prop where
  c3 : BX W b3 (.slice (some ⟨b, o, none⟩) nb cb) 82
  c5 : BX W (b3 + 1) (.int .i64 h) 3
  c13 : BX W b13 (.func (.func 187) #[] #[.pointer (some ⟨b3 + 1, 0, none⟩), .pointer (some ⟨b11, 0, none⟩), .pointer (some ⟨b12, 0, none⟩)]) 228
  row : kLn.row W (fun j => j < w.heap.size) (some ⟨b, o, none⟩) nb bd
theorem PsB.keep {w W W' : World} {b o nb cb b3 b11 b12 b13 : Nat} {h : Int} {bd : List Ln} (p : PsB w W b o nb cb b3 b11 b12 b13 h bd) (hs : W.heap.size ≤ W'.heap.size) (hk : ∀ j, j = b3 ∨ j = b3 + 1 ∨ j = b13 ∨ j < w.heap.size → W'.heap[j]? = W.heap[j]?) : PsB w W' b o nb cb b3 b11 b12 b13 h bd :=
  ⟨p.c3.keep (hk _ (.inl rfl)), p.c5.keep (hk _ (.inr (.inl rfl))), p.c13.keep (hk _ (.inr (.inr (.inl rfl)))), Lay.row_keep p.row hs fun j hj _ => hk j (.inr (.inr (.inr hj)))⟩
/-- The queue grows by notes of a line. W2: the world when that begins. -/
structure PsN (w W2 : World) (b10 : Nat) (q : List Ln) (qv1 : Value) (qv : Value) (W : World) : Prop where
  c10 : BX W b10 qv 82
  que : kLn.que 86 W (b10 + 1) (fun j => j < w.heap.size) qv q
  own : ∀ j, qv.ownBlock = some j → qv1.ownBlock = some j ∨ W2.heap.size ≤ j
  keep : ∀ j, j < W2.heap.size → j ≠ b10 → qv1.ownBlock ≠ some j → W.heap[j]? = W2.heap[j]?
  size : W2.heap.size ≤ W.heap.size
  ext : Ext w W
def notesUp (notes : List (List Ln)) (l : List Int) : List Ln := l.flatMap fun n => notes[n.toNat]?.getD []
def PsL (w W2 : World) (b10 : Nat) (notes : List (List Ln)) (q1 : List Ln) (nts : List Int) (qv1 : Value) (s48 : Value) (W : World) : Prop := ∃ (j : Nat) (qv : Value), j ≤ nts.length ∧ s48 = .int .i64 j ∧ PsN w W2 b10 (q1 ++ notesUp notes (nts.take j)) qv1 qv W
theorem notesUp_succ (notes : List (List Ln)) (l : List Int) {j : Nat} {m : Int} (h : l[j]? = some m) : notesUp notes (l.take (j + 1)) = notesUp notes (l.take j) ++ notes[m.toNat]?.getD [] := by
  unfold notesUp
  rw [List.take_add_one, h, List.flatMap_append]
  simp
theorem notesUp_le (notes : List (List Ln)) (l : List Int) (j : Nat) : (notesUp notes (l.take j)).length ≤ (notesUp notes l).length := by
  have h : notesUp notes l = notesUp notes (l.take j) ++ notesUp notes (l.drop j) := by
    unfold notesUp
    rw [← List.flatMap_append, List.take_append_drop]
  rw [h, List.length_append]; omega
/-- A step of the queue's growth. -/
theorem PsN.step {w W2 W W9 : World} {b10 : Nat} {q ys : List Ln} {qv1 qv : Value} {A9 : Option Addr} {n9 c9 : Nat} (p : PsN w W2 b10 q qv1 qv W) (h10 : w.heap.size ≤ b10) (ho : kLn.que 86 W9 (b10 + 1) (fun j => j < w.heap.size) (.slice A9 n9 c9) (q ++ ys))
    (hb : ∀ B, B ≤ b10 + 1 → Below B W.drew W9) (hk : ∀ j, j < W.drew.heap.size → qv.ownBlock ≠ some j → W9.heap[j]? = W.drew.heap[j]?) (hs : W.drew.heap.size ≤ W9.heap.size) (hn : ∀ j, (Value.slice A9 n9 c9).ownBlock = some j → qv.ownBlock = some j ∨ W.drew.heap.size ≤ j) :
    BX W9 b10 qv 82 ∧ PsN w W2 b10 (q ++ ys) qv1 (.slice A9 n9 c9) (W9.setCell ⟨b10, 0, none⟩ (.slice A9 n9 c9)) := by
  have hs' : W.heap.size ≤ W9.heap.size := hs
  have hown : ∀ j, qv.ownBlock = some j → b10 < j := fun j hj => (Lay.que_lt p.que j hj).1
  have d : BX W9 b10 qv 82 := p.c10.keep (hk b10 p.c10.lt fun e => Nat.lt_irrefl _ (hown _ e))
  refine ⟨d, d.set _, Lay.que_keep ho (by simp) fun j hj hl => ?_, fun j hj => ?_, fun j h1 h2 h3 => ?_, ?_, (Below.trans p.ext.drew (hb w.heap.size (by omega))).setCell (p := ⟨b10, 0, none⟩) h10 _⟩
  · refine heap_setCell_other _ ⟨b10, 0, none⟩ j _ ?_
    show j ≠ b10
    rcases hj with hj | hj
    · omega
    · have := (Lay.que_lt ho j hj).1; omega
  · rcases hn j hj with h | h
    · exact p.own j h
    · exact .inr (Nat.le_trans p.size h)
  · refine (heap_setCell_other _ ⟨b10, 0, none⟩ j _ h2).trans ((hk j (Nat.lt_of_lt_of_le h1 p.size) fun e => ?_).trans (p.keep j h1 h2 h3))
    rcases p.own j e with h | h
    · exact h3 h
    · omega
  · rw [show (W9.setCell ⟨b10, 0, none⟩ (.slice A9 n9 c9)).heap.size = W9.heap.size by simp]; exact Nat.le_trans p.size hs'
/-- A line is taken. -/
theorem PsC.step {w W0 W2 W : World} {b10 b11 b12 M : Nat} {h : Int} {notes : List (List Ln)} {bd : List Ln} {r0 : Nat × List Ln × Int} {qv0 qv1 qv : Value} {l : Nat} {s : Int} {q : List Ln} {x : Ln}
    (c : PsC w W0 b10 b11 b12 M h notes bd r0 qv0 l s q qv1 W2) (hx : bd[l]? = some x) (hf : fitsP h q x l s = true) (p : PsN w W2 b10 (q ++ notesOf notes x) qv1 qv W) (hn : ∀ l ∈ notes, LnsB l)
    (h10 : w.heap.size ≤ b10) (h11 : b10 < b11) (h12 : b10 < b12) (hne : b11 ≠ b12) (hq0 : ∀ j, qv0.ownBlock = some j → b10 < j ∧ j < b11 ∧ j < b12) (h110 : b11 < W0.heap.size) (h120 : b12 < W0.heap.size)
    (W' : World) (hW : W' = W.setCell ⟨b11, 0, none⟩ (.int .i64 ((l : Int) + 1)) ∧ s = showP h (q ++ notesOf notes x) (l + 1) s ∨ ∃ s', s' = showP h (q ++ notesOf notes x) (l + 1) s ∧ W' = ((W.setCell ⟨b11, 0, none⟩ (.int .i64 ((l : Int) + 1))).setCell ⟨b12, 0, none⟩ (.int .i64 s')).drew) :
    PsI w W0 b10 b11 b12 M h notes bd r0 qv0 W' := by
  have hl := (List.getElem?_eq_some_iff.1 hx).1
  have hown1 : ∀ j, qv1.ownBlock = some j → b10 < j ∧ j ≠ b11 ∧ j ≠ b12 := fun j hj => by
    rcases c.own j hj with h | h
    · have := hq0 j h; omega
    · omega
  have hown : ∀ j, qv.ownBlock = some j → b10 < j ∧ j ≠ b11 ∧ j ≠ b12 := fun j hj => by
    rcases p.own j hj with h | h
    · exact hown1 j h
    · have := c.size; omega
  have k11 : W.heap[b11]? = W2.heap[b11]? := p.keep b11 (by have := c.size; omega) (by omega) fun e => (hown1 _ e).2.1 rfl
  have k12 : W.heap[b12]? = W2.heap[b12]? := p.keep b12 (by have := c.size; omega) (by omega) fun e => (hown1 _ e).2.2 rfl
  have d11 := c.c11.keep k11
  have d12 := c.c12.keep k12
  obtain ⟨s', hs', c11', c12', hk, hs, hex⟩ : ∃ s', s' = showP h (q ++ notesOf notes x) (l + 1) s ∧ BX W' b11 (.int .i64 ((l + 1 : Nat) : Int)) 3 ∧ BX W' b12 (.int .i64 s') 3 ∧ (∀ j, j ≠ b11 → j ≠ b12 → W'.heap[j]? = W.heap[j]?) ∧ W'.heap.size = W.heap.size ∧ Ext w W' := by
    rcases hW with ⟨rfl, e⟩ | ⟨s', e, rfl⟩
    · refine ⟨s, e, ?_, d12.keep (heap_setCell_other _ ⟨b11, 0, none⟩ b12 _ (Ne.symm hne)), fun j h1 _ => heap_setCell_other _ ⟨b11, 0, none⟩ j _ h1, by simp, p.ext.setCell (p := ⟨b11, 0, none⟩) (by show w.heap.size ≤ b11; omega) _⟩
      have := d11.set (.int .i64 ((l : Int) + 1))
      simpa using this
    · refine ⟨s', e, BX.drew ?_, BX.drew ?_, fun j h1 h2 => (heap_setCell_other _ ⟨b12, 0, none⟩ j _ h2).trans (heap_setCell_other _ ⟨b11, 0, none⟩ j _ h1), by simp, (p.ext.setCell (p := ⟨b11, 0, none⟩) (by show w.heap.size ≤ b11; omega) _).setCell (p := ⟨b12, 0, none⟩) (by show w.heap.size ≤ b12; omega) _ |>.drew⟩
      · have := (d11.set (.int .i64 ((l : Int) + 1))).keep (W' := (W.setCell ⟨b11, 0, none⟩ (.int .i64 ((l : Int) + 1))).setCell ⟨b12, 0, none⟩ (.int .i64 s')) (heap_setCell_other _ ⟨b12, 0, none⟩ b11 _ hne)
        simpa using this
      · exact (d12.keep (W' := W.setCell ⟨b11, 0, none⟩ (.int .i64 ((l : Int) + 1))) (heap_setCell_other _ ⟨b11, 0, none⟩ b12 _ (Ne.symm hne))).set _
  have hdrop := dwl' _ hx
  have hstep := fillP_step (notes := notes) c.fill hf
  rw [← hs'] at hstep
  refine ⟨l + 1, s', q ++ notesOf notes x, qv, by omega, hstep.1, ?_, p.c10.keep (hk b10 (by omega) (by omega)), c11', c12', Lay.que_keep p.que (Nat.le_of_eq hs.symm) fun j hj hl => ?_, fun j hj => ?_, fun j h1 h2 h3 h4 h5 => ?_, ?_, ?_, ?_, hex⟩
  · have e := c.eq
    rw [hdrop, fillP, if_pos hf] at e
    rw [hs']
    exact e
  · rcases hj with hj | hj
    · exact hk j (by omega) (by omega)
    · have := hown j hj
      exact hk j this.2.1 this.2.2
  · rcases p.own j hj with h | h
    · exact c.own j h
    · exact .inr (Nat.le_trans c.size h)
  · refine (hk j h3 h4).trans ((p.keep j (Nat.lt_of_lt_of_le h1 c.size) h2 fun e => ?_).trans (c.keep j h1 h2 h3 h4 h5))
    rcases c.own j e with h | h
    · exact h5 h
    · omega
  · rw [hs]; exact Nat.le_trans c.size p.size
  · have h9 := c.left
    unfold leftP at h9 ⊢
    rw [hdrop, List.map_cons, List.sum_cons] at h9
    rw [List.length_append]
    omega
  · intro y hy
    rcases List.mem_append.1 hy with h | h
    · exact c.lns y h
    · unfold notesOf at h
      obtain ⟨m, _, hm⟩ := List.mem_flatMap.1 h
      cases hc : notes[m.toNat]? with
      | none => rw [hc] at hm; simp at hm
      | some z => rw [hc] at hm; exact hn z (List.mem_of_getElem? hc) y hm
theorem info84 : (Tryz.prog.info? 84).map (fun i => (i.zero, i.size, i.bytes)) = some (some (Value.agg #[.int .i64 0, .int .i64 0, .int .i64 0, .int .i64 0, .slice none 0 0, .slice none 0 0]), 6, 80) := by kernel_rfl
/-- A page is appended. -/
theorem page_app {w2 X : World} {b10 : Nat} {P' : Nat → Prop} {u9 : Value} {pgs : List Pg} {bd nt : List Ln} (hX : Ext w2 X) (ho : kPg.own 84 w2 (b10 + 1) P' u9 pgs) (hP : ∀ j, w2.heap.size ≤ j → P' j) {AG AN : Option Addr} {l sN cG cN : Nat} (h1 : l ≤ cG) (h2 : sN ≤ cN)
    (r1 : kLn.own 86 X w2.heap.size (fun q => w2.heap.size ≤ q) (.slice AG l cG) bd) (r2 : kLn.own 86 X w2.heap.size (fun q => w2.heap.size ≤ q) (.slice AN sN cN) nt) (hl : pgs.length < 100000000) (hb : b10 + 1 ≤ w2.heap.size) :
    ∃ A9 c9 w9, (Builtin.append_ #[106, 106] 106 #[u9, .slice (some ⟨X.heap.size, 0, none⟩) 1 1]).run Tryz.prog (X.alloc (.cells #[.int .i64 0, .int .i64 0, .int .i64 0, .int .i64 0, .slice AG l cG, .slice AN sN cN] 84)) = .ok (.slice A9 (pgs.length + 1) c9) w9 ∧
      kPg.own 84 w9 (b10 + 1) P' (.slice A9 (pgs.length + 1) c9) (pgs ++ [pgOf (bd, nt)]) ∧ (∀ B, B ≤ b10 + 1 → Below B X w9) ∧ (∀ j, j < X.heap.size → u9.ownBlock ≠ some j → w9.heap[j]? = X.heap[j]?) ∧ X.heap.size ≤ w9.heap.size ∧
      (∀ j, (Value.slice A9 (pgs.length + 1) c9).ownBlock = some j → u9.ownBlock = some j ∨ X.heap.size ≤ j) := by
  have hlt := Lay.own_lt ho
  have hrow : ∀ {A : Option Addr} {n c : Nat} {xs : List Ln}, kLn.own 86 X w2.heap.size (fun q => w2.heap.size ≤ q) (.slice A n c) xs → kLn.row X (fun j => P' j ∧ u9.ownBlock ≠ some j) A n xs := fun {A n c xs} h => by
    obtain ⟨A9, c9, e9, _, h9⟩ := own_rowN (Q := fun j => P' j ∧ u9.ownBlock ≠ some j) h (fun q hq _ => ⟨hP q hq, fun e => by have := (hlt q e).2; omega⟩) (fun q hq _ => ⟨hP q hq, fun e => by have := (hlt q e).2; omega⟩)
    have e1 : A = A9 := by injection e9
    have e2 : n = xs.length := by injection e9
    rw [e1, e2]
    exact h9
  exact own_app1 (k := kPg) (Pr := Tryz.prog) (t := 106) Tryz.underlying106 info84 rfl (by decide) (by omega) (Lay.own_ext ho hX) (Nat.le_trans hb hX.lt) (cs := #[.int .i64 0, .int .i64 0, .int .i64 0, .int .i64 0, .slice AG l cG, .slice AN sN cN]) (T := 84) (x := pgOf (bd, nt)) (kPg_rep.2 ⟨AG, l, cG, AN, sN, cN, rfl, h1, h2, hrow r1, hrow r2⟩) 1 hl
/-- A page in plain Lean. -/
theorem fill_page {h : Int} (hh : 4 ≤ h) (notes : List (List Ln)) (bd q q1 : List Ln) (l sN : Nat) (hne : bd ≠ [] ∨ q ≠ []) (he : fillP h notes bd q 0 (min (q.length : Int) (h - 1)) = (l, q1, (sN : Int))) (f : Nat) (hf : leftP notes bd q ≤ f) :
    ∃ f', setF h notes f bd q = (bd.take l, q1.take sN) :: setF h notes f' (bd.drop l) (q1.drop sN) ∧ leftP notes (bd.drop l) (q1.drop sN) ≤ f' ∧ leftP notes (bd.drop l) (q1.drop sN) + 1 ≤ leftP notes bd q ∧ l ≤ bd.length ∧ sN ≤ q1.length ∧ (0 < l ∨ l = 0 ∧ q1 = q ∧ 0 < sN) := by
  obtain ⟨g1, _, g3, _, g5⟩ := fillP_ok h notes bd q 0 _ (fill_start hh q)
  have g6 := fill_prog hh notes bd q hne
  rw [he] at g1 g3 g5 g6
  simp only [Nat.sub_zero, Int.toNat_natCast] at g1 g3 g5 g6
  have hs := g1.le
  have hl : l ≤ bd.length := by omega
  have hs2 : sN ≤ q1.length := by omega
  have h9 := leftP_fill notes bd q l sN hl (by rw [← g5]; exact hs2)
  rw [← g5] at h9
  cases f with
  | zero => exfalso; omega
  | succ f =>
    refine ⟨f, ?_, by omega, by omega, hl, hs2, ?_⟩
    · rw [setF, if_neg (by rintro ⟨e1, e2⟩; rcases hne with h | h <;> contradiction)]
      simp only [he, Int.toNat_natCast]
    · rcases Nat.eq_zero_or_pos l with e | e
      · subst e
        exact .inr ⟨rfl, by simpa using g5, by omega⟩
      · exact .inl e
/-- append, where its run is known, as a step of a region that draws its order. -/
theorem step_append_run {P : Program} {w : World} {ops : Array Oper} {o : Oper} {a : Act} {K : Act → World → Prop} {Q : Exit → Act → World → Prop} {E : Prop} {s x : Operand} {t : TypeId} {vs vx v' : Value} {w' : World}
    (hr : (Builtin.append_ #[t, t] t #[vs, vx]).run P w = .ok v' w') (hgd : o.guard = none)
    (ho : o.op = .call { callee := .builtin .append, args := #[s, x], argTypes := #[t, t] }) (hty : o.type = t) (hs : a.eval s = vs) (hx : a.eval x = vx)
    (h : K (a.put o.dst v') w') : if Region.wanted o (yielded ops a.tmps) = true then Oper.wp P o a w K Q else E := by
  have hw : Region.wanted o (yielded ops a.tmps) = true := by simp [Region.wanted, hgd]
  rw [if_pos hw]
  unfold Oper.wp execOp
  simp only [ho, hty, resolve, invoke, builtin, Sem.run_bind, Sem.run_pure, Result.andThen_ok, List.map_toArray, List.map_cons, List.map_nil, hs, hx, hr]
  exact h
theorem own_low {β : Type} {k : Lay β} {e : TypeId} {W : World} {b b' : Nat} {v : Value} {xs : List β} (h : k.own e W b (fun q => b ≤ q) v xs) (hb : b' ≤ b) : k.own e W b' (fun q => b' ≤ q) v xs := own_base (Lay.own_mono h fun _ hj _ => Nat.le_trans hb hj) hb
theorem exec_slice {P : Program} {ev : Operand → Value} {o : Oper} {t : TypeId} {x y : Operand} {vx vy v : Value} {w : World} (ho : o.op = .slice t x (some y) none none) (hx : ev x = vx) (hy : ev y = vy) (hr : (Instr.sliceAt t vx (some vy) none none).run P w = .ok v w) : (execOp ev o).run P w = .ok (.value v) w := by
  unfold execOp
  simp [ho, hx, hy, hr]
theorem page_less {nb M l sN : Nat} {q q1 : List Ln} (h : 0 < l ∨ l = 0 ∧ q1 = q ∧ 0 < sN) (hl : l ≤ nb) (hs : sN ≤ q1.length) (hM : q1.length ≤ M) : (nb - l) * (M + 1) + (q1.length - sN) < nb * (M + 1) + q.length := by
  rcases h with h | ⟨rfl, rfl, h⟩
  · have h1 : (nb - l) * (M + 1) ≤ (nb - 1) * (M + 1) := Nat.mul_le_mul_right _ (by omega)
    have h2 : nb * (M + 1) = (nb - 1) * (M + 1) + (M + 1) := by
      rw [← Nat.succ_mul]; congr 1; omega
    omega
  · rw [Nat.sub_zero]; omega
/-- A page is done: the loop goes on. -/
theorem PsO_fin {w w2 W9 : World} {b b3 b10 M o' nb' cb' f' : Nat} {h : Int} {notes : List (List Ln)} {all pgs : List (List Ln × List Ln)} {bd' q' : List Ln} {u9 qv1 qv' : Value} {A9 : Option Addr} {n9 c9 : Nat} {pg : List Ln × List Ln} {v3 v10 : Value}
    (c3 : BX W9 b3 v3 82) (c5 : BX W9 (b3 + 1) (.int .i64 h) 3) (c10 : BX W9 b10 v10 82) (h31 : b3 + 1 < b10) (hw : w.heap.size ≤ b3) (hx : Ext w W9) (hnb : nb' ≤ cb') (hrow : kLn.row W9 (fun j => j < w.heap.size) (some ⟨b, o', none⟩) nb' bd') (hque : kLn.que 86 W9 (b10 + 1) (fun j => j < w.heap.size) qv' q')
    (hown : ∀ j, qv'.ownBlock = some j → qv1.ownBlock = some j) (ho9 : kPg.own 84 W9 (b10 + 1) (fun j => b10 < j ∧ qv1.ownBlock ≠ some j) (.slice A9 n9 c9) (pgs.map pgOf ++ [pgOf pg])) (hn9 : ∀ j, (Value.slice A9 n9 c9).ownBlock = some j → u9.ownBlock = some j ∨ w2.heap.size ≤ j)
    (hu9 : ∀ j, u9.ownBlock = some j → qv1.ownBlock ≠ some j) (hq1 : ∀ j, qv1.ownBlock = some j → j < w2.heap.size) (hle : leftP notes bd' q' ≤ f') (hall : all = pgs ++ pg :: setF h notes f' bd' q') (hM : leftP notes bd' q' ≤ M) (hpM : pgs.length + 1 + leftP notes bd' q' ≤ M) (hno : NtsOk notes.length bd') (hbl : LnsB bd') (hql : LnsB q') :
    PsO w b b3 (b3 + 1) b10 M h notes all (.slice A9 n9 c9) ((W9.setCell ⟨b3, 0, none⟩ (.slice (some ⟨b, o', none⟩) nb' cb')).setCell ⟨b10, 0, none⟩ qv').drew ∧ BX ((W9.setCell ⟨b3, 0, none⟩ (.slice (some ⟨b, o', none⟩) nb' cb')).setCell ⟨b10, 0, none⟩ qv').drew b3 (.slice (some ⟨b, o', none⟩) nb' cb') 82 ∧ BX ((W9.setCell ⟨b3, 0, none⟩ (.slice (some ⟨b, o', none⟩) nb' cb')).setCell ⟨b10, 0, none⟩ qv').drew b10 qv' 82 := by
  have hk : ∀ j, j ≠ b3 → j ≠ b10 → ((W9.setCell ⟨b3, 0, none⟩ (.slice (some ⟨b, o', none⟩) nb' cb')).setCell ⟨b10, 0, none⟩ qv').drew.heap[j]? = W9.heap[j]? := fun j h1 h2 => (heap_setCell_other _ ⟨b10, 0, none⟩ j _ h2).trans (heap_setCell_other _ ⟨b3, 0, none⟩ j _ h1)
  have hsz : ((W9.setCell ⟨b3, 0, none⟩ (.slice (some ⟨b, o', none⟩) nb' cb')).setCell ⟨b10, 0, none⟩ qv').drew.heap.size = W9.heap.size := by
    show ((W9.setCell ⟨b3, 0, none⟩ (.slice (some ⟨b, o', none⟩) nb' cb')).setCell ⟨b10, 0, none⟩ qv').heap.size = _
    simp
  have hlq := Lay.que_lt hque
  have hlo := Lay.own_lt ho9
  refine ⟨?_, ((c3.set _).keep (heap_setCell_other _ ⟨b10, 0, none⟩ b3 _ (by show b3 ≠ b10; omega))).drew, ((c10.keep (heap_setCell_other _ ⟨b3, 0, none⟩ b10 _ (by show b10 ≠ b3; omega))).set _).drew⟩
  refine ⟨bd', q', o', nb', cb', f', qv', pgs ++ [pg], hnb, ((c3.set _).keep (heap_setCell_other _ ⟨b10, 0, none⟩ b3 _ (by show b3 ≠ b10; omega))).drew, c5.keep (hk _ (by omega) (by omega)), ((c10.keep (heap_setCell_other _ ⟨b3, 0, none⟩ b10 _ (by show b10 ≠ b3; omega))).set _).drew,
    Lay.row_keep hrow (Nat.le_of_eq hsz.symm) fun j hj _ => hk j (by omega) (by omega), Lay.que_keep hque (Nat.le_of_eq hsz.symm) fun j hj hl => ?_, ?_, fun j hj e => ?_, hle, ?_, hM, by rw [List.length_append]; exact hpM, hno, hbl, hql, ((hx.setCell (p := ⟨b3, 0, none⟩) hw _).setCell (p := ⟨b10, 0, none⟩) (by show w.heap.size ≤ b10; omega) _).drew⟩
  · rcases hj with hj | hj
    · exact hk j (by omega) (by omega)
    · have := (hlq j hj).1; exact hk j (by omega) (by omega)
  · rw [List.map_append]
    exact Lay.own_keep (Lay.own_mono ho9 fun j hj _ => ⟨hj.1, fun e => hj.2 (hown j e)⟩) (Nat.le_of_eq hsz.symm) fun j hj _ => by
      rcases hj with hj | hj
      · exact hk j (by have := hj.1; omega) (by have := hj.1; omega)
      · have := (hlo j hj).1; exact hk j (by omega) (by omega)
  · have e1 := hown j e
    rcases hn9 j hj with h | h
    · exact hu9 j h e1
    · have := hq1 j e1; omega
  · rw [hall]; simp
/-- fits, at whatever line. -/
theorem fits_any (w W : World) (b o nb cb b3 b10 b11 b12 b13 : Nat) (h s : Int) (bd q : List Ln) (notes : List (List Ln)) (l : Nat) (Aq : Option Addr) (cq : Nat) (p : PsB w W b o nb cb b3 b11 b12 b13 h bd) (c10 : BX W b10 (.slice Aq q.length cq) 82) (c11 : BX W b11 (.int .i64 l) 3) (c12 : BX W b12 (.int .i64 s) 3)
    (hh : 0 ≤ h ∧ h ≤ 100) (hs : 0 ≤ s ∧ s ≤ 1000000) (hl : l ≤ nb) (hn : nb ≤ 1000000) (hq : q.length ≤ 1000000) : ∃ fb : Bool,
    Calls Tryz.prog 188 #[.pointer (some ⟨b11, 0, none⟩), .pointer (some ⟨b3, 0, none⟩), .pointer (some ⟨b13, 0, none⟩), .pointer (some ⟨b12, 0, none⟩), .pointer (some ⟨b10, 0, none⟩)] W (fun e w' => e = .returned (.bool fb) ∧ ∃ k, w' = W.drewN k) ∧
    (fb = false → fillP h notes (bd.drop l) q l s = (l, q, s)) ∧ (fb = true → ∃ x, bd[l]? = some x ∧ fitsP h q x l s = true) := by
  have hlen := Lay.row_len p.row
  rcases Nat.lt_or_ge l nb with hlt | hge
  · obtain ⟨x, hx⟩ : ∃ x, bd[l]? = some x := ⟨_, List.getElem?_eq_getElem (by omega)⟩
    obtain ⟨b1, o1, cs, e9, hb1, _, hrep, hcell⟩ := Lay.row_at p.row hx
    injection e9 with e9
    injection e9 with e1 e2
    subst e1 e2
    obtain ⟨A1, n1, c1, A2, n2, c2, rfl, _, _, _, hr2⟩ := kLn_rep.1 hrep
    have k3 := hcell 3 _ rfl
    rw [kLn_sz] at k3
    refine ⟨fitsP h q x l s, fits_at W b3 (b3 + 1) b10 b11 b12 b13 b o nb cb l q.length cq n2 c2 Aq A2 h s q x hlt hn c11.cell p.c3.cell p.c13.cell c12.cell c10.cell p.c5.cell k3 (Lay.row_len hr2) rfl hq hh hs, fun hf => ?_, fun hf => ⟨x, hx, hf⟩⟩
    rw [dwl' _ hx, fillP, if_neg (by rw [hf]; simp)]
  · obtain rfl : l = nb := by omega
    refine ⟨false, fits_end W b3 b10 b11 b12 b13 (some ⟨b, o, none⟩) l cb c11.cell p.c3.cell, fun _ => ?_, fun hf => by cases hf⟩
    rw [List.drop_of_length_le (by omega)]
    rfl
set_option maxHeartbeats 8000000 in
set_option maxRecDepth 100000 in
theorem pset_any (P : Nat → Prop) (w : World) (b off n c nn cn M : Nat) (An : Option Addr) (body : List Ln) (notes : List (List Ln)) (h : Int) (h1 : kLn.row w P (some ⟨b, off, none⟩) n body) (hn0 : n ≤ c) (h2 : kLs.row w P An nn notes) (hc : chkPg body notes h = 0) (hM : leftP notes body [] ≤ M) (hM2 : M ≤ 100000) (hln : nn ≤ 100000)
    (hb : LnsB body) (hnb : ∀ l ∈ notes, LnsB l) (hno : NtsOk notes.length body) :
    Calls Tryz.prog 149 #[.slice (some ⟨b, off, none⟩) n c, .slice An nn cn, .int .i64 h] w (fun e w' => ∃ A' c', e = .returned (.tuple #[.slice A' (setPg body notes h).2.length c', .int .i64 0]) ∧
      kPg.own 84 w' w.heap.size (fun j => w.heap.size ≤ j) (.slice A' (setPg body notes h).2.length c') ((setPg body notes h).2.map pgOf) ∧ Ext w w') := by
  have hlb : n ≤ M := by
    have h9 := Lay.row_len h1
    have h8 := leftP_len notes body []
    omega
  obtain ⟨k1, k2, _, _⟩ := chkPg_inv hc
  have HE1 := Lib.hid (Lay.row_len h1)
  have HE2 := Lib.hid (Lay.row_len h2)
  have HR1 := Lib.hid h1
  have HR2 := Lib.hid h2
  have HCK := Lib.hid (fun X (hX : Ext w X) => pgcheck_any P X (some ⟨b, off, none⟩) An n nn c cn body notes h (Lay.row_ext h1 hX) (Lay.row_ext h2 hX) hc (by omega) hln)
  have HALL := Lib.hid (show (setPg body notes h).2 = setF h notes (leftP notes body []) body [] by unfold setPg; rw [if_neg (by rw [hc]; simp)])
  have HBL := Lib.hid hb
  have HNB := Lib.hid hnb
  have HNO := Lib.hid hno
  have HM := Lib.hid hM
  clear h1 h2 hc hb hnb hno hM
  go_enter Tryz.func149, Tryz.ntmps149
  go_wp2_with (first | (go_at_call 186; refine (HCK.out _ (((Ext.refl w).alloc _).alloc _)).mono ?_; rintro e w1 ⟨rfl, hx⟩; have HX := Lib.hid hx; clear hx))
  obtain ⟨b3, hb3⟩ : ∃ b3, w.heap.size = b3 := ⟨_, rfl⟩
  obtain ⟨b10, hb10⟩ : ∃ b10, w1.heap.size = b10 := ⟨_, rfl⟩
  obtain ⟨W1, hW1⟩ : ∃ W1, w1.alloc (.cells #[.slice none 0 0] 82) = W1 := ⟨_, rfl⟩
  have hlt1 : b3 + 1 < b10 := by have := HX.out.lt; simp only [World.size_alloc] at this; omega
  have HXW := Lib.hid (show Ext w W1 by rw [← hW1]; exact ((((Ext.refl w).alloc _).alloc _).trans HX.out).alloc _)
  have H3 := Lib.hid (show BX W1 b3 (.slice (some ⟨b, off, none⟩) n c) 82 by
    rw [← hW1, ← hb3]
    exact (((BX.new w _ 82).ext ((Ext.refl _).alloc _)).ext HX.out).ext ((Ext.refl _).alloc _))
  have H5 := Lib.hid (show BX W1 (b3 + 1) (.int .i64 h) 3 by
    rw [← hW1, ← hb3]
    have h9 := BX.new (w.alloc (.cells #[.slice (some ⟨b, off, none⟩) n c] 82)) (.int .i64 h) 3
    rw [World.size_alloc] at h9
    exact (h9.ext HX.out).ext ((Ext.refl _).alloc _))
  have H10 := Lib.hid (show BX W1 b10 (.slice none 0 0) 82 by rw [← hW1, ← hb10]; exact BX.new w1 _ 82)
  rw [hW1, hb10, hb3]
  clear hW1 hb10 HX
  obtain ⟨all, hall⟩ : ∃ all, setF h notes (leftP notes body []) body [] = all := ⟨_, rfl⟩
  have HAL := Lib.hid hall
  clear hall
  go_loopw [9] (fun s9 W => PsO w b b3 (b3 + 1) b10 M h notes all s9 W) (fun _ W => mlen W b3 * (M + 1) + mlen W b10)
  case atStart =>
    exact ⟨body, [], off, n, c, _, _, [], hn0, H3.out, H5.out, H10.out, Lay.row_ext (Lay.row_mono HR1.out fun j _ hj => hj) HXW.out, Lay.que_nil _ _ _ _ _, Lay.own_nil _ _ _ _ _, (fun j (hj : none = some j) => nomatch hj), Nat.le_refl _, HAL.out.symm, HM.out, (by rw [List.length_nil, Nat.zero_add]; exact HM.out), HNO.out, HBL.out, (fun x hx => by simp at hx), HXW.out⟩
  case round =>
    obtain ⟨bd, q, o, nb, cb, f, qv, pgs, hnb0, h3, h5, h10, hrow, hque, hown, hownq, hf, heq, hM, hpM, hno, hbl, hql, hx⟩ := hrel
    obtain ⟨Aq, cq, rfl, hcq, hcq2⟩ := Lay.que_len hque
    have HEb := Lib.hid (Lay.row_len hrow)
    have d3 := h3.cell
    have d5 := h5.cell
    have d10 := h10.cell
    have H3r := Lib.hid h3
    have H5r := Lib.hid h5
    have H10r := Lib.hid h10
    have HRW := Lib.hid hrow
    have HQU := Lib.hid hque
    have HOW := Lib.hid hown
    have HOQ := Lib.hid hownq
    have HEQ := Lib.hid heq
    have HNOr := Lib.hid hno
    have HBLr := Lib.hid hbl
    have HQL := Lib.hid hql
    have HXr := Lib.hid hx
    have HMr := Lib.hid hM
    have HM3 := Lib.hid (mlen_of h3)
    have HM10 := Lib.hid (mlen_of h10)
    have hlq : q.length ≤ M := by
      unfold leftP at hM
      omega
    have hnbM : nb ≤ M := by
      have h8 := leftP_len notes bd q
      have := Lay.row_len hrow
      omega
    clear h3 h5 h10 hrow hque hown hownq heq hno hbl hql hx hM H3 H5 H10
    by_cases hend : nb = 0 ∧ q.length = 0
    · obtain ⟨rfl, hq0⟩ := hend
      have HFIN := Lib.hid (show all = pgs by
        rw [HEQ.out, List.eq_nil_of_length_eq_zero (l := bd) (by have := HEb.out; omega), List.eq_nil_of_length_eq_zero hq0]
        cases f <;> simp [setF])
      have hq0' : (q.length : Int) = 0 := by omega
      go_wp2_with fail
      obtain ⟨Ap, cp, rfl, _⟩ := Lay.own_row HOW.out
      rw [← HFIN.out, ← HAL.out, ← HALL.out] at HOW ⊢
      refine bodyPost_ret (v := .tuple #[.slice Ap ((setPg body notes h).2.map pgOf).length cp, .int .i64 0]) (by simp [results, Tryz.results149, go_sem, *]) rfl ?_
      exact ⟨Ap, cp, by rw [List.length_map], by have h9 := own_base (base' := w.heap.size) (Lay.own_mono HOW.out fun j hj _ => (by omega : w.heap.size ≤ j)) (by omega); rwa [List.length_map] at h9, HXr.out⟩
    go_upto_region 6 with (fail)
    go_cut [32] (fun s32 wx => s32 = .bool true ∧ wx = wr)
    case first =>
      rcases Nat.eq_zero_or_pos nb with h0 | h0
      · have h1 : (0 : Int) < (q.length : Int) := by omega
        have h2 : 0 < q.length := by omega
        subst h0
        go_wp2_with fail
        go_meet
        case rel => exact ⟨rfl, rfl⟩
      · have h1 : (0 : Int) < (nb : Int) := by omega
        have h2 : 0 < nb := h0
        go_wp2_with fail
        go_meet
        case rel => exact ⟨rfl, rfl⟩
    case rest =>
      obtain ⟨rfl, rfl⟩ := hcut
      rename World => wo
      obtain ⟨s0, hs0⟩ : ∃ s0, min (q.length : Int) (h - 1) = s0 := ⟨_, rfl⟩
      have hs0' := hs0
      have hs0b : 0 ≤ s0 ∧ s0 ≤ (q.length : Int) := by omega
      obtain ⟨hs01, hs02⟩ := hs0b
      go_upto_region 7 with (fail)
      go_cut [11, 12] (fun s11 s12 wx => ∃ b11 b12, b11 ≠ b12 ∧ wo.heap.size ≤ b11 ∧ wo.heap.size ≤ b12 ∧ s11 = .pointer (some ⟨b11, 0, none⟩) ∧ s12 = .pointer (some ⟨b12, 0, none⟩) ∧ BX wx b11 (.int .i64 0) 3 ∧ BX wx b12 (.int .i64 s0) 3 ∧ Ext wo wx)
      case first =>
        have hw1 : IntKind.i64.wrap (h - 1) = h - 1 := IntWalk.i64_in _ (by omega)
        have q10 := World.block_lt_of_cell? _ _ d10
        have q5 := World.block_lt_of_cell? _ _ d5
        go_region_held3 (fun W => W.cell? ⟨b10, 0, none⟩ = some (.slice Aq q.length cq) ∧ W.cell? ⟨b3 + 1, 0, none⟩ = some (.int .i64 h)) (go_keep) (fail)
        all_goals
          go_wp2_with fail
          go_meet
          case rel =>
            first
            | exact ⟨wo.heap.size, wo.heap.size + 1, by omega, by omega, by omega, rfl, rfl, (BX.two wo _ _ 3).1, (BX.two wo _ _ 3).2.1, (BX.two wo _ _ 3).2.2⟩
            | exact ⟨wo.heap.size + 1, wo.heap.size, by omega, by omega, by omega, rfl, rfl, (BX.two wo _ _ 3).2.1, (BX.two wo _ _ 3).1, (BX.two wo _ _ 3).2.2⟩
      case rest =>
        obtain ⟨b11, b12, hne, hb11, hb12, rfl, rfl, h11, h12, hxc⟩ := hcut
        rename World => wa
        have HXC := Lib.hid hxc
        have H11a := Lib.hid h11
        have H12a := Lib.hid h12
        have l11 := h11.lt
        have l12 := h12.lt
        clear hxc h11 h12 d3 d5 d10
        go_upto_region 10 with (fail)
        obtain ⟨b13, hb13⟩ : ∃ b13, wa.heap.size = b13 := ⟨_, rfl⟩
        obtain ⟨W0, hW0⟩ : ∃ W0, wa.alloc (.cells #[.func (.func 187) #[] #[.pointer (some ⟨b3 + 1, 0, none⟩), .pointer (some ⟨b11, 0, none⟩), .pointer (some ⟨b12, 0, none⟩)]] 228) = W0 := ⟨_, rfl⟩
        rw [hW0, hb13]
        have HX0 := Lib.hid (show Ext wo W0 by rw [← hW0]; exact HXC.out.alloc _)
        have hwo : b10 < wo.heap.size := H10r.out.lt
        have hs0 : b13 < W0.heap.size := by rw [← hW0, World.size_alloc, hb13]; omega
        have hoa : wo.heap.size ≤ b13 := by rw [← hb13]; exact HXC.out.lt
        have HQ0 := Lib.hid (show ∀ j, (Value.slice Aq q.length cq).ownBlock = some j → b10 < j ∧ j < wo.heap.size from fun j hj => by have h9 := Lay.que_lt HQU.out j hj; exact ⟨by omega, h9.2⟩)
        have HC := Lib.hid (show PsC w W0 b10 b11 b12 M h notes bd (fillP h notes bd q 0 s0) (.slice Aq q.length cq) 0 s0 q (.slice Aq q.length cq) W0 from
          ⟨Nat.zero_le _, by rw [← hs0']; exact fill_start k1 q, rfl, H10r.out.ext HX0.out, by rw [← hW0]; exact H11a.out.ext ((Ext.refl _).alloc _), by rw [← hW0]; exact H12a.out.ext ((Ext.refl _).alloc _), Lay.que_ext HQU.out HX0.out, fun j hj => .inl hj, fun j _ _ _ _ _ => rfl, Nat.le_refl _, HMr.out, HQL.out, HXr.out.trans HX0.out⟩)
        have HB := Lib.hid (show PsB w W0 b o nb cb b3 b11 b12 b13 h bd from
          ⟨H3r.out.ext HX0.out, H5r.out.ext HX0.out, by rw [← hW0, ← hb13]; exact BX.new wa _ 228, Lay.row_ext HRW.out HX0.out⟩)
        rw [hb13] at l11 l12
        clear hW0 hb13 HXC H11a H12a
        go_loopw [] (fun W => PsI w W0 b10 b11 b12 M h notes bd (fillP h notes bd q 0 s0) (.slice Aq q.length cq) W) (fun W => bd.length - mint W b11)
        case atStart => exact ⟨_, _, _, _, HC.out⟩
        case round =>
          obtain ⟨l, s, q1, qv, hc⟩ := hrel
          obtain ⟨Aq1, cq1, rfl, hcq1, hcq2'⟩ := Lay.que_len hc.que
          have HCr := Lib.hid hc
          have HMI := Lib.hid (mint_of hc.c11)
          have HBr := Lib.hid (HB.out.keep (b13 := b13) hc.size fun j hj => hc.keep j (by rcases hj with h | h | h | h <;> omega) (by rcases hj with h | h | h | h <;> omega) (by rcases hj with h | h | h | h <;> omega) (by rcases hj with h | h | h | h <;> omega) fun e => by have := HQ0.out j e; rcases hj with h | h | h | h <;> omega)
          have hlq1 : q1.length ≤ M := by have h9 := hc.left; unfold leftP at h9; omega
          obtain ⟨fb, hfit, hff, hft⟩ := fits_any w wr b o nb cb b3 b10 b11 b12 b13 h s bd q1 notes l Aq1 cq1 HBr.out hc.c10 hc.c11 hc.c12 ⟨by omega, k2⟩ ⟨hc.fill.pos, by have := hc.fill.le; omega⟩ (by have := hc.le; have := HEb.out; omega) (by omega) (by omega)
          have HFF := Lib.hid hff
          have HFT := Lib.hid hft
          clear hc hff hft
          go_wp2_with fail
          refine hfit.mono ?_
          rintro e w2 ⟨rfl, k, hw2⟩
          have HC2 := Lib.hid (show PsC w W0 b10 b11 b12 M h notes bd (fillP h notes bd q 0 s0) (.slice Aq q.length cq) l s q1 (.slice Aq1 q1.length cq1) w2 by rw [hw2]; exact HCr.out.drewN k)
          have HB2 := Lib.hid (show PsB w w2 b o nb cb b3 b11 b12 b13 h bd by rw [hw2]; exact HBr.out.keep (by simp) fun j _ => by simp)
          clear hw2 HCr HBr hfit
          cases fb with
          | false =>
            have HR0 := Lib.hid (show fillP h notes bd q 0 s0 = (l, q1, s) by rw [← HC2.out.eq]; exact HFF.out rfl)
            clear HFF HFT
            obtain ⟨sN, rfl⟩ : ∃ sN : Nat, s = (sN : Int) := ⟨s.toNat, by have := HC2.out.fill.pos; omega⟩
            have hqo1 : ∀ j, (Value.slice Aq1 q1.length cq1).ownBlock = some j → b10 < j ∧ j < w2.heap.size := fun j hj => by have := Lay.que_lt HC2.out.que j hj; exact ⟨by omega, this.2⟩
            have hw02 := HC2.out.size
            obtain ⟨PL, hPL⟩ : ∃ PL, pgs.map pgOf = PL := ⟨_, rfl⟩
            have HPL := Lib.hid hPL
            have hou := Lay.own_lt HOW.out
            have hof : ∀ j, u9.ownBlock = some j → (Value.slice Aq1 q1.length cq1).ownBlock ≠ some j ∧ b10 < j ∧ j < wo.heap.size := fun j hj => by
              have h7 := hou j hj
              refine ⟨fun e => ?_, by omega, h7.2⟩
              rcases HC2.out.own j e with h | h
              · exact HOQ.out j hj h
              · have := HX0.out.lt; omega
            have hx0l := HX0.out.lt
            have hk02 : ∀ j, j < wo.heap.size → b10 < j → (Value.slice Aq q.length cq).ownBlock ≠ some j → w2.heap[j]? = wo.heap[j]? := fun j hj h1 h2 => (HC2.out.keep j (by omega) (by omega) (by omega) (by omega) h2).trans (HX0.out.block j hj)
            have HOW2 := Lib.hid (show kPg.own 84 w2 (b10 + 1) (fun j => b10 < j ∧ (Value.slice Aq1 q1.length cq1).ownBlock ≠ some j) u9 PL by
              have h6 := Lay.own_mono (P' := fun j => (b10 < j ∧ (Value.slice Aq1 q1.length cq1).ownBlock ≠ some j) ∧ (Value.slice Aq q.length cq).ownBlock ≠ some j) HOW.out fun j hj hl => ⟨⟨hj.1, fun e => by
                rcases HC2.out.own j e with h | h
                · exact hj.2 h
                · omega⟩, hj.2⟩
              have h7 := Lay.own_keep h6 (W' := w2) (by omega) fun j hj hl => hk02 j hl (by
                rcases hj with h | h
                · exact h.1.1
                · exact (hof j h).2.1) (by
                rcases hj with h | h
                · exact h.2
                · exact HOQ.out j h)
              rw [hPL] at h7
              exact Lay.own_mono h7 fun j hj _ => hj.1)
            clear hPL HOW
            have hls := HC2.out.le
            have hbdl : bd.length ≤ M := by have := HEb.out; omega
            have hss := HC2.out.fill.le
            have hne : bd ≠ [] ∨ q ≠ [] := by
              rcases Nat.eq_zero_or_pos bd.length with h | h
              · exact .inr fun e => by subst e; exact hend ⟨by have := HEb.out; omega, rfl⟩
              · exact .inl fun e => by subst e; exact absurd h (Nat.lt_irrefl _)
            obtain ⟨f', hp1, hp2, hp3, hp4, hp5, hp6⟩ := fill_page k1 notes bd q q1 l sN hne (by rw [hs0']; exact HR0.out) f hf
            have HP1 := Lib.hid hp1
            have HR1c := Lib.hid (fun X (hX : Ext w2 X) => lclone_any (fun j => j < w.heap.size) X (some ⟨b, o, none⟩) l cb (bd.take l) (Lay.row_ext (Lay.row_take HB2.out.row l (by have := HEb.out; omega)) hX) (by omega) fun y hy => HBLr.out y (List.mem_of_mem_take hy))
            have HR2c := Lib.hid (fun X (hX : Ext w2 X) => lclone_any _ X Aq1 sN cq1 (q1.take sN) (Lay.row_ext (Lay.row_take (Lay.que_row HC2.out.que) sN (by omega)) hX) (by omega) fun y hy => HC2.out.lns y (List.mem_of_mem_take hy))
            have HAPP := Lib.hid (fun X (hX : Ext w2 X) (AG AN : Option Addr) (cG cN : Nat) h1 h2 r1 r2 => page_app (AG := AG) (AN := AN) (l := l) (sN := sN) (cG := cG) (cN := cN) (bd := bd.take l) (nt := q1.take sN) hX HOW2.out (fun j hj => ⟨by have := HC2.out.c10.lt; omega, fun e => by have := (hqo1 j e).2; omega⟩) h1 h2 r1 r2 (by rw [← HPL.out, List.length_map]; omega) HC2.out.c10.lt)
            have HQc := Lib.hid (fun X (hX : Ext w2 X) => (show X.cell? ⟨b3, 0, none⟩ = some (.slice (some ⟨b, o, none⟩) nb cb) ∧ X.cell? ⟨b11, 0, none⟩ = some (.int .i64 l) ∧ X.cell? ⟨b10, 0, none⟩ = some (.slice Aq1 q1.length cq1) ∧ X.cell? ⟨b12, 0, none⟩ = some (.int .i64 sN) from
              ⟨(HB2.out.c3.ext hX).cell, (HC2.out.c11.ext hX).cell, (HC2.out.c10.ext hX).cell, (HC2.out.c12.ext hX).cell⟩))
            have hbx : ∀ j, j = b3 ∨ j = b10 ∨ j = b11 ∨ j = b12 → j < w2.heap.size ∧ u9.ownBlock ≠ some j := fun j hj => by
              have := HB2.out.c3.lt
              have := HC2.out.c10.lt
              refine ⟨by rcases hj with h | h | h | h <;> omega, fun e => ?_⟩
              have := (hof j e).2
              rcases hj with h | h | h | h <;> omega
            have HQ9 := Lib.hid (fun X (hX : Ext w2 X) (W9 : World) (hk : ∀ j, j < X.heap.size → u9.ownBlock ≠ some j → W9.heap[j]? = X.heap[j]?) => (show W9.cell? ⟨b3, 0, none⟩ = some (.slice (some ⟨b, o, none⟩) nb cb) ∧ W9.cell? ⟨b11, 0, none⟩ = some (.int .i64 l) ∧ W9.cell? ⟨b10, 0, none⟩ = some (.slice Aq1 q1.length cq1) ∧ W9.cell? ⟨b12, 0, none⟩ = some (.int .i64 sN) from
              ⟨((HB2.out.c3.ext hX).keep (hk b3 (Nat.lt_of_lt_of_le (hbx b3 (.inl rfl)).1 hX.lt) (hbx b3 (.inl rfl)).2)).cell, ((HC2.out.c11.ext hX).keep (hk b11 (Nat.lt_of_lt_of_le (hbx b11 (.inr (.inr (.inl rfl)))).1 hX.lt) (hbx b11 (.inr (.inr (.inl rfl)))).2)).cell,
                ((HC2.out.c10.ext hX).keep (hk b10 (Nat.lt_of_lt_of_le (hbx b10 (.inr (.inl rfl))).1 hX.lt) (hbx b10 (.inr (.inl rfl))).2)).cell, ((HC2.out.c12.ext hX).keep (hk b12 (Nat.lt_of_lt_of_le (hbx b12 (.inr (.inr (.inr rfl)))).1 hX.lt) (hbx b12 (.inr (.inr (.inr rfl)))).2)).cell⟩))
            go_upto_region 20 with (fail)
            go_cut [9] (fun s9 wx => ∃ A9 c9, s9 = .slice A9 (PL.length + 1) c9 ∧ kPg.own 84 wx (b10 + 1) (fun j => b10 < j ∧ (Value.slice Aq1 q1.length cq1).ownBlock ≠ some j) (.slice A9 (PL.length + 1) c9) (PL ++ [pgOf (bd.take l, q1.take sN)]) ∧
              (∀ j, j < w2.heap.size → u9.ownBlock ≠ some j → wx.heap[j]? = w2.heap[j]?) ∧ w2.heap.size ≤ wx.heap.size ∧ (∀ j, (Value.slice A9 (PL.length + 1) c9).ownBlock = some j → u9.ownBlock = some j ∨ w2.heap.size ≤ j) ∧ Ext w wx)
            case first =>
              have hcur : Ext w2 w2.drew := (Ext.refl _).drew
              have hlc : (l : Int) ≤ (cb : Int) := by have := HEb.out; omega
              have hsc : (sN : Int) ≤ (cq1 : Int) := by omega
              have HS9 : True := True.intro
              have HFIN9 := Lib.hid (fun X (hX : Ext w2 X) (A9 : Option Addr) (c9 : Nat) (w9 : World) (ho9 : kPg.own 84 w9 (b10 + 1) (fun j => b10 < j ∧ (Value.slice Aq1 q1.length cq1).ownBlock ≠ some j) (.slice A9 (PL.length + 1) c9) (PL ++ [pgOf (bd.take l, q1.take sN)])) (hb9 : ∀ B, B ≤ b10 + 1 → Below B X w9) (hk9 : ∀ j, j < X.heap.size → u9.ownBlock ≠ some j → w9.heap[j]? = X.heap[j]?) (hs9 : X.heap.size ≤ w9.heap.size) (hn9 : ∀ j, (Value.slice A9 (PL.length + 1) c9).ownBlock = some j → u9.ownBlock = some j ∨ X.heap.size ≤ j) =>
                (show ∃ A c, Value.slice A9 (PL.length + 1) c9 = .slice A (PL.length + 1) c ∧ kPg.own 84 w9 (b10 + 1) (fun j => b10 < j ∧ (Value.slice Aq1 q1.length cq1).ownBlock ≠ some j) (.slice A (PL.length + 1) c) (PL ++ [pgOf (bd.take l, q1.take sN)]) ∧
                  (∀ j, j < w2.heap.size → u9.ownBlock ≠ some j → w9.heap[j]? = w2.heap[j]?) ∧ w2.heap.size ≤ w9.heap.size ∧ (∀ j, (Value.slice A (PL.length + 1) c).ownBlock = some j → u9.ownBlock = some j ∨ w2.heap.size ≤ j) ∧ Ext w w9 from
                ⟨A9, c9, rfl, ho9, fun j hj hne => (hk9 j (Nat.lt_of_lt_of_le hj hX.lt) hne).trans (hX.block j hj), Nat.le_trans hX.lt hs9, fun j hj => (hn9 j hj).imp id (Nat.le_trans hX.lt), Below.trans (HC2.out.ext.trans hX) (hb9 w.heap.size (by omega))⟩))
              go_region_held3 (fun W => W.cell? ⟨b3, 0, none⟩ = some (.slice (some ⟨b, o, none⟩) nb cb) ∧ W.cell? ⟨b11, 0, none⟩ = some (.int .i64 l) ∧ W.cell? ⟨b10, 0, none⟩ = some (.slice Aq1 q1.length cq1) ∧ W.cell? ⟨b12, 0, none⟩ = some (.int .i64 sN)) (first | exact HQc.out _ hcur | exact HQc.out _ (hcur.alloc _) | exact HS9) (first
                | (go_at_call_of 189 (Value.slice (some ⟨b, o, none⟩) l cb); refine (HR1c.out _ hcur).mono ?_; rintro e wG ⟨AG, cG, rfl, hG, hoG, hxG⟩; have hcur := hcur.trans hxG; have HOG := Lib.hid hoG; have HXG := Lib.hid hxG; clear hoG hxG)
                | (go_at_call_of 189 (Value.slice Aq1 sN cq1); refine (HR2c.out _ hcur).mono ?_; rintro e wN ⟨AN, cN, rfl, hN, hoN, hxN⟩; have hcur := hcur.trans hxN; have HON := Lib.hid hoN; have HXN := Lib.hid hxN; clear hoN hxN)
                | (obtain ⟨A9, c9, w9, hrun, ho9, hb9, hk9, hs9, hn9⟩ := HAPP.out _ hcur AG AN cG cN hG hN (by first | exact Lay.own_ext HOG.out HXN.out | exact own_low HOG.out HXN.out.lt) (by first | exact own_low HON.out HXG.out.lt | exact Lay.own_ext HON.out HXG.out); have HS9 := HQ9.out _ hcur w9 hk9; have HREL := Lib.hid (HFIN9.out _ hcur A9 c9 w9 ho9 hb9 hk9 hs9 hn9); refine step_append_run (s := .tmp 77) (x := .tmp 87) hrun rfl rfl rfl rfl rfl ?_; clear hrun ho9 hb9 hk9 hs9 hn9))
              all_goals
                go_wp2_with fail
                go_meet
                case rel => exact HREL.out
            case rest =>
              obtain ⟨A9, c9, rfl, ho9, hk9, hs9, hn9, hx9⟩ := hcut
              rename World => W9
              have hb5 : u9.ownBlock ≠ some (b3 + 1) := fun e => by have := (hof _ e).2.1; omega
              have C3 := Lib.hid (HB2.out.c3.keep (hk9 b3 (hbx b3 (.inl rfl)).1 (hbx b3 (.inl rfl)).2))
              have C5 := Lib.hid (HB2.out.c5.keep (hk9 (b3 + 1) HB2.out.c5.lt hb5))
              have C10 := Lib.hid (HC2.out.c10.keep (hk9 b10 (hbx b10 (.inr (.inl rfl))).1 (hbx b10 (.inr (.inl rfl))).2))
              have C11 := Lib.hid (HC2.out.c11.keep (hk9 b11 (hbx b11 (.inr (.inr (.inl rfl)))).1 (hbx b11 (.inr (.inr (.inl rfl)))).2))
              have C12 := Lib.hid (HC2.out.c12.keep (hk9 b12 (hbx b12 (.inr (.inr (.inr rfl)))).1 (hbx b12 (.inr (.inr (.inr rfl)))).2))
              have HRW9 := Lib.hid (Lay.row_keep HB2.out.row hs9 fun j hj hl => hk9 j hl fun e => by have := (hof j e).2.1; omega)
              have HQU9 := Lib.hid (Lay.que_keep HC2.out.que hs9 fun j hj hl => hk9 j hl fun e => by
                rcases hj with h | h
                · have := (hof j e).2.1; omega
                · exact (hof j e).1 h)
              have HFN := Lib.hid (fun (o' nb' cb' : Nat) (bd' q' : List Ln) (qv' : Value) hnb' hrow hque hown (hbd : bd' = bd.drop l) (hq : q' = q1.drop sN) => PsO_fin (b := b) (w2 := w2) (u9 := u9) (qv1 := .slice Aq1 q1.length cq1) (o' := o') (nb' := nb') (cb' := cb') (bd' := bd') (q' := q') (qv' := qv') (M := M) (f' := f') (all := all) (pgs := pgs) (pg := (bd.take l, q1.take sN)) (notes := notes) C3.out C5.out C10.out hlt1 (by omega) hx9 hnb' hrow hque hown (by rw [HPL.out]; exact ho9) hn9 (fun j hj => (hof j hj).1) (fun j hj => (hqo1 j hj).2) (by rw [hbd, hq]; exact hp2) (by rw [HEQ.out, HP1.out, hbd, hq]) (by rw [hbd, hq]; have := HMr.out; omega) (by rw [hbd, hq]; omega) (by rw [hbd]; exact fun y hy => HNOr.out y (List.mem_of_mem_drop hy)) (by rw [hbd]; exact fun y hy => HBLr.out y (List.mem_of_mem_drop hy)) (by rw [hq]; exact fun y hy => HC2.out.lns y (List.mem_of_mem_drop hy)))
              have d3 := C3.out.cell
              have d10 := C10.out.cell
              have d11 := C11.out.cell
              have d12 := C12.out.cell
              have f3 := C3.out.frozen
              have f10 := C10.out.frozen
              have hlc : (l : Int) ≤ (cb : Int) := by have := HEb.out; omega
              have hsc : (sN : Int) ≤ (cq1 : Int) := by omega
              have hln : (l : Int) ≤ (nb : Int) := by have := HEb.out; omega
              have hsn : (sN : Int) ≤ (q1.length : Int) := by omega
              have hb310 : ¬ b3 = b10 := by omega
              have hb103 : ¬ b10 = b3 := by omega
              obtain ⟨o', cb', hnb', hrow', hbrun⟩ := body_cut HRW9.out hnb0 l (by have := HEb.out; omega)
              obtain ⟨Aq', cq', hque', hown', hqrun⟩ := que_cut HQU9.out sN hp5 hcq1
              have HBR := Lib.hid hbrun
              have HQR := Lib.hid hqrun
              have hff := HFN.out o' (nb - l) cb' _ _ _ hnb' hrow' hque' hown' rfl rfl
              rw [List.length_drop] at hff
              have HFF := Lib.hid hff
              clear hff
              have HLS := Lib.hid (page_less (M := M) (nb := nb) hp6 (by have := HEb.out; omega) hp5 hlq1)
              clear hbrun hqrun hrow' hque' hown' ho9 hk9 hn9
              go_upto_region 21 with (fail)
              have hT0 : (fun X : World => X.cell? ⟨b11, 0, none⟩ = some (.int .i64 l) ∧ X.cell? ⟨b12, 0, none⟩ = some (.int .i64 sN)) W9.drew := ⟨C11.out.drew.cell, C12.out.drew.cell⟩
              have hS0 : (fun X : World => X.cell? ⟨b10, 0, none⟩ = some (.slice Aq1 q1.length cq1)) W9.drew := C10.out.drew.cell
              refine wp_region_E (fun X => X.cell? ⟨b10, 0, none⟩ = some (.slice Aq1 q1.length cq1)) (fun X => X.cell? ⟨b11, 0, none⟩ = some (.int .i64 l) ∧ X.cell? ⟨b12, 0, none⟩ = some (.int .i64 sN)) (fun i => i == 1 || i == 4 || i == 5 || i == 7) (by kernel_rfl) ?_
              refine wpE_takeT (i := 1) (d := some 90) (v := .int .i64 (l : Int)) rfl rfl (by kernel_rfl) (by kernel_rfl) (by kernel_rfl) rfl (fun _ _ _ h => h) (by rfl) ?hy1 hT0 ?go1
              case hy1 =>
                intro w9 hT9
                obtain ⟨y0, y1⟩ := hT9; go_simp
              (try simp only [Act.put, List.setIfInBounds_toArray, List.set_cons_zero, List.set_cons_succ])
              refine wpE_takeT (i := 4) (d := some 93) (v := .int .i64 (sN : Int)) rfl rfl (by kernel_rfl) (by kernel_rfl) (by kernel_rfl) rfl (fun _ _ _ h => h) (by rfl) ?hy4 hT0 ?go4
              case hy4 =>
                intro w9 hT9
                obtain ⟨y0, y1⟩ := hT9; go_simp
              (try simp only [Act.put, List.setIfInBounds_toArray, List.set_cons_zero, List.set_cons_succ])
              refine wpE_takeS (i := 3) (d := some 92) (v := .slice Aq1 q1.length cq1) rfl rfl (by kernel_rfl) (by kernel_rfl) (by kernel_rfl) (by kernel_rfl) (fun _ _ _ h => h) (by rfl) ?hy3 hS0 hT0 ?go3
              case hy3 =>
                intro w9 hT9
                have y0 : w9.cell? ⟨b10, 0, none⟩ = some (.slice Aq1 q1.length cq1) := hT9; go_simp
              (try simp only [Act.put, List.setIfInBounds_toArray, List.set_cons_zero, List.set_cons_succ])
              refine wpE_takeT (i := 5) (d := some 94) (v := .slice Aq' (q1.drop sN).length cq') rfl rfl (by kernel_rfl) (by kernel_rfl) (by kernel_rfl) rfl (fun _ _ _ h => h) (by rfl) ?hy5 hT0 ?go5
              case hy5 =>
                intro w9 hT9
                exact exec_slice rfl rfl rfl (HQR.out w9)
              (try simp only [Act.put, List.setIfInBounds_toArray, List.set_cons_zero, List.set_cons_succ])
              refine wpE_all (rs := [0]) (by kernel_rfl) (by simp) ?_
              refine AllE.cons rfl (fun K hK => ?_) AllE.nil
              simp only [List.getElem_toArray, List.getElem_cons_zero]
              have z3 := C3.out.drew.cell
              go_simp
              refine hK.out _ _ ⟨fun _ => hS0, hT0⟩ (fun _ => ?_)
              clear hK K
              (try simp only [Act.put, List.setIfInBounds_toArray, List.set_cons_zero, List.set_cons_succ])
              refine wpE_takeS (i := 2) (d := some 91) (v := .slice (some ⟨b, o', none⟩) (nb - l) cb') rfl rfl (by kernel_rfl) (by kernel_rfl) (by kernel_rfl) (by kernel_rfl) (fun _ _ _ h => h) (by rfl) ?hy2 hS0 hT0 ?go2
              case hy2 =>
                intro w9 hT9
                exact exec_slice rfl rfl rfl (HBR.out w9)
              (try simp only [Act.put, List.setIfInBounds_toArray, List.set_cons_zero, List.set_cons_succ])
              refine wpE_all (rs := [6]) (by kernel_rfl) (by simp) ?_
              refine AllE.cons rfl (fun K hK => ?_) AllE.nil
              simp only [List.getElem_toArray, List.getElem_cons_succ, List.getElem_cons_zero]
              have z3 := C3.out.drew.cell
              have z4 := C3.out.drew.frozen
              go_simp
              refine hK.out _ _ ⟨fun _ => (World.cell?_setCell_other _ _ _ _ (by intro e; injection e with e; omega)).trans hS0, (World.cell?_setCell_other _ _ _ _ (by intro e; injection e with e; omega)).trans hT0.1, (World.cell?_setCell_other _ _ _ _ (by intro e; injection e with e; omega)).trans hT0.2⟩ (fun _ => ?_)
              clear hK K
              (try simp only [Act.put, List.setIfInBounds_toArray, List.set_cons_zero, List.set_cons_succ])
              refine wpE_all (rs := [7]) (by kernel_rfl) (by simp) ?_
              refine AllE.cons rfl (fun K hK => ?_) AllE.nil
              simp only [List.getElem_toArray, List.getElem_cons_succ, List.getElem_cons_zero]
              have z5 := C10.out.drew.cell
              have z6 := C10.out.drew.frozen
              go_simp
              refine hK.out _ _ ⟨fun h => absurd h (by simp), (World.cell?_setCell_other _ _ _ _ (by intro e; injection e with e; omega)).trans ((World.cell?_setCell_other _ _ _ _ (by intro e; injection e with e; omega)).trans hT0.1), (World.cell?_setCell_other _ _ _ _ (by intro e; injection e with e; omega)).trans ((World.cell?_setCell_other _ _ _ _ (by intro e; injection e with e; omega)).trans hT0.2)⟩ (fun _ => ?_)
              clear hK K
              (try simp only [Act.put, List.setIfInBounds_toArray, List.set_cons_zero, List.set_cons_succ])
              refine wpE_done (by kernel_rfl) ?_ _
              go_wp2_with fail
              go_roundw
              case rel => exact HFF.out.1
              case measure =>
                rw [HM3.out, HM10.out, mlen_of HFF.out.2.1, mlen_of HFF.out.2.2]
                exact HLS.out
          | true =>
            obtain ⟨x, hx, hfx⟩ := HFT.out rfl
            have HX := Lib.hid hx
            have HFX := Lib.hid hfx
            clear HFF HFT
            have hlen := (List.getElem?_eq_some_iff.1 hx).1
            obtain ⟨b1, o1, cs, e9, hb1, _, hrep, hcell⟩ := Lay.row_at HB2.out.row hx
            injection e9 with e9
            injection e9 with e1 e2
            subst e1 e2
            obtain ⟨A1, n1, c1, A2, n2, c2, rfl, _, _, _, hr2⟩ := kLn_rep.1 hrep
            have k3 := hcell 3 _ rfl
            rw [kLn_sz] at k3
            have d3 := HB2.out.c3.cell
            have d11 := HC2.out.c11.cell
            have hln : (l : Int) < (nb : Int) := by have := HEb.out; omega
            have hnt := HNOr.out x (List.mem_of_getElem? hx)
            have HNT := Lib.hid hnt
            have HR2x := Lib.hid hr2
            have HEn := Lib.hid (Lay.row_len hr2)
            have hn2 : n2 ≤ 1000000 := by have := (HBLr.out x (List.mem_of_getElem? hx)).2; have := HEn.out; omega
            have hgrow : q1.length + (notesUp notes x.nts).length ≤ M := by
              have h9 := HC2.out.left
              unfold leftP at h9
              rw [dwl' _ hx, List.map_cons, List.sum_cons] at h9
              have : (notesUp notes x.nts).length = (notesOf notes x).length := rfl
              omega
            clear hcell hrep hr2 hx hfx hnt
            go_wp2_with fail
            go_loopw [48] (fun s48 W => PsL w w2 b10 notes q1 x.nts (.slice Aq1 q1.length cq1) s48 W) (fun s48 _ => toM n2 s48)
            case atStart => exact ⟨0, _, Nat.zero_le _, rfl, HC2.out.c10, by rw [show notesUp notes (List.take 0 x.nts) = [] from rfl, List.append_nil]; exact HC2.out.que, fun j hj => .inl hj, fun j _ _ _ => rfl, Nat.le_refl _, HC2.out.ext⟩
            case round =>
              obtain ⟨j, qv, hj, rfl, hN⟩ := hrel
              obtain ⟨qj, hqj⟩ : ∃ qj, q1 ++ notesUp notes (x.nts.take j) = qj := ⟨_, rfl⟩
              rw [hqj] at hN
              have HQJ := Lib.hid hqj
              clear hqj
              obtain ⟨Aq2, cq2, rfl, hcq5, hcq6⟩ := Lay.que_len hN.que
              have HN := Lib.hid hN
              clear hN
              have hqo : ∀ i, (Value.slice Aq1 q1.length cq1).ownBlock = some i → b10 < i := fun i hi => by have := Lay.que_lt HC2.out.que i hi; omega
              have hold : ∀ i, i < w2.heap.size → i < b10 → wr.heap[i]? = w2.heap[i]? := fun i h1 h2 => HN.out.keep i h1 (by omega) fun e => by have := hqo i e; omega
              have hwb : w.heap.size ≤ b3 := by omega
              have hw2 : w.heap.size ≤ w2.heap.size := HC2.out.ext.lt
              by_cases hjn : j < n2
              case neg =>
                obtain rfl : n2 = j := by have := HEn.out; omega
                have hnj : ¬ ((n2 : Int) < (n2 : Int)) := by omega
                have hq2 : q1 ++ notesOf notes x = qj := by rw [← HQJ.out, List.take_of_length_le (by have := HEn.out; omega)]; rfl
                have hq2l : qj.length ≤ M := by rw [← hq2, List.length_append]; exact hgrow
                have n3 : ∀ i, i < w2.heap.size → i ≠ b10 → (∀ j, (Value.slice Aq1 q1.length cq1).ownBlock = some j → j ≠ i) → wr.heap[i]? = w2.heap[i]? := fun i h1 h2 h3 => HN.out.keep i h1 h2 fun e => h3 i e rfl
                have hq1o : ∀ j, (Value.slice Aq1 q1.length cq1).ownBlock = some j → b10 < j ∧ j ≠ b11 ∧ j ≠ b12 ∧ j ≠ b13 := fun j hj => by
                  rcases HC2.out.own j hj with h | h
                  · have := HQ0.out j h; omega
                  · omega
                have hsz := HC2.out.size
                have D11 := HC2.out.c11.keep (n3 b11 (by omega) (by omega) fun j hj => (hq1o j hj).2.1)
                have D12 := HC2.out.c12.keep (n3 b12 (by omega) (by omega) fun j hj => (hq1o j hj).2.2.1)
                have D13 := HB2.out.c13.keep (n3 b13 (by omega) (by omega) fun j hj => (hq1o j hj).2.2.2)
                have D5 := HB2.out.c5.keep (n3 (b3 + 1) (by omega) (by omega) fun j hj => by have := (hq1o j hj).1; omega)
                have r10 := HN.out.c10.cell
                have r11 := D11.cell
                have r12 := D12.cell
                have r13 := D13.cell
                have r5 := D5.cell
                have f11 := D11.frozen
                have f12 := D12.frozen
                have hfl := HC2.out.fill
                have hs1 := hfl.pos
                have hs2 := hfl.le
                have hlM : (l : Int) ≤ 100000 := by omega
                have hsM : s ≤ 100000 := by omega
                have hq2M : (qj.length : Int) ≤ 100000 := by omega
                have HM11 := Lib.hid (mint_of D11)
                have n1112 : ¬ b11 = b12 := hne
                have n1211 : ¬ b12 = b11 := Ne.symm hne
                have n135 : ¬ b3 + 1 = b11 := by omega
                have n1011 : ¬ b10 = b11 := by omega
                have n1311 : ¬ b13 = b11 := by omega
                have HST := Lib.hid (fun (W' : World) hW => HC2.out.step (W := wr) HX.out HFX.out (by rw [hq2]; exact HN.out) HNB.out (by omega) (by omega) (by omega) hne (fun j hj => by have := HQ0.out j hj; omega) (by omega) (by omega) W' hW)
                by_cases hmore : 0 < (qj.length : Int) - s
                · obtain ⟨mr, hmr⟩ : ∃ mr, (qj.length : Int) - s = mr := ⟨_, rfl⟩
                  obtain ⟨rm, hrm⟩ : ∃ rm, roomP h (l + 1 : Nat) s = rm := ⟨_, rfl⟩
                  obtain ⟨mn, hmn⟩ : ∃ mn, min s 1 = mn := ⟨_, rfl⟩
                  obtain ⟨dl, hdl⟩ : ∃ dl, min mr (rm - 1 + mn) = dl := ⟨_, rfl⟩
                  have HSH := Lib.hid (show s + dl = showP h (q1 ++ notesOf notes x) (l + 1) s by rw [hq2]; unfold showP; rw [if_pos hmore, hmr, hrm, hmn, hdl])
                  have hrmb : -300000 ≤ rm ∧ rm ≤ 100 := by rw [← hrm]; unfold roomP; omega
                  obtain ⟨hrm1, hrm2⟩ := hrmb
                  have hmnb : 0 ≤ mn ∧ mn ≤ 1 := by omega
                  obtain ⟨hmn1, hmn2⟩ := hmnb
                  have hdlb : -300001 ≤ dl ∧ dl ≤ 100000 := by omega
                  obtain ⟨hdl1, hdl2⟩ := hdlb
                  have hmr0 : 0 < mr := by omega
                  have D11' := D11.set (.int .i64 ((l : Int) + 1))
                  have D12' := D12.keep (W' := wr.setCell ⟨b11, 0, none⟩ (.int .i64 ((l : Int) + 1))) (heap_setCell_other _ ⟨b11, 0, none⟩ b12 _ (Ne.symm hne))
                  have D5' := D5.keep (W' := wr.setCell ⟨b11, 0, none⟩ (.int .i64 ((l : Int) + 1))) (heap_setCell_other _ ⟨b11, 0, none⟩ (b3 + 1) _ (by show b3 + 1 ≠ b11; omega))
                  have HRM := Lib.hid (show Calls Tryz.prog 187 #[.pointer (some ⟨b3 + 1, 0, none⟩), .pointer (some ⟨b11, 0, none⟩), .pointer (some ⟨b12, 0, none⟩)] (wr.setCell ⟨b11, 0, none⟩ (.int .i64 ((l : Int) + 1))).drew (fun e w' => e = .returned (.int .i64 rm) ∧ w' = (wr.setCell ⟨b11, 0, none⟩ (.int .i64 ((l : Int) + 1))).drew) by
                    rw [← hrm]
                    exact room_any _ (b3 + 1) b11 b12 h ((l + 1 : Nat) : Int) s D5'.drew.cell (by have := D11'.drew.cell; simpa using this) D12'.drew.cell ⟨by omega, k2⟩ (by omega) (by omega))
                  have HMM := Lib.hid (show mint ((wr.setCell ⟨b11, 0, none⟩ (.int .i64 ((l : Int) + 1))).setCell ⟨b12, 0, none⟩ (.int .i64 (s + dl))) b11 = ((l : Int) + 1).toNat from mint_of (D11'.keep (heap_setCell_other _ ⟨b12, 0, none⟩ b11 _ hne)))
                  have D13' := D13.keep (W' := wr.setCell ⟨b11, 0, none⟩ (.int .i64 ((l : Int) + 1))) (heap_setCell_other _ ⟨b11, 0, none⟩ b13 _ (by show b13 ≠ b11; omega))
                  have HD12 := Lib.hid D12'
                  have HD13 := Lib.hid D13'
                  clear hfl hq2 hrm D11' D12' D5' D13' hmore
                  go_upto_region 19 with (fail)
                  obtain ⟨WX, hWX⟩ : ∃ WX, wr.setCell ⟨b11, 0, none⟩ (.int .i64 ((l : Int) + 1)) = WX := ⟨_, rfl⟩
                  rw [hWX] at HRM HMM HD12 HD13 ⊢
                  have x12 := HD12.out.cell
                  have x13 := HD13.out.cell
                  have xf12 := HD12.out.frozen
                  have HWX := Lib.hid hWX
                  clear hWX r5 r10 r11 r12 r13 f11 f12
                  refine wp_region_still_tail 10 (by kernel_rfl) (by kernel_rfl) ?_
                  simp only [List.take_succ_cons, List.take_zero, List.drop_succ_cons, List.drop_zero]
                  repeat still_step
                  still_call HRM.out
                  repeat still_step
                  refine wpStill_nil ?_
                  go_wp2_with fail
                  go_roundw
                  case rel => exact HST.out _ (.inr ⟨s + min mr (rm - 1 + mn), by rw [hdl]; exact HSH.out, by rw [HWX.out]⟩)
                  case measure =>
                    have h9 : mint ((WX.setCell ⟨b12, 0, none⟩ (.int .i64 (s + min mr (rm - 1 + mn)))).drew) b11 = ((l : Int) + 1).toNat := by rw [hdl]; exact HMM.out
                    rw [HMI.out, h9]
                    omega
                · have hmore2 : (qj.length : Int) - s ≤ 0 := by omega
                  have HSH := Lib.hid (show s = showP h (q1 ++ notesOf notes x) (l + 1) s by rw [hq2]; unfold showP; rw [if_neg hmore])
                  clear hfl hq2
                  go_wp2_with fail
                  go_roundw
                  case rel => exact HST.out _ (.inl ⟨rfl, HSH.out⟩)
                  case measure => 
                    rw [HMI.out, mint_of (D11.set _)]
                    omega
              have hJ : (j : Int) < (n2 : Int) := by omega
              obtain ⟨m, hm⟩ : ∃ m, x.nts[j]? = some m := ⟨_, List.getElem?_eq_getElem (by have := HEn.out; omega)⟩
              obtain ⟨hm0, hm1⟩ := HNT.out m (List.mem_of_getElem? hm)
              obtain ⟨mN, rfl⟩ : ∃ mN : Nat, m = (mN : Int) := ⟨m.toNat, by omega⟩
              obtain ⟨b4, o4, rfl, _, _, hc4⟩ := int_at (Lay.row_keep HR2x.out HN.out.size fun i hi hl => hold i hl (by omega)) hm
              obtain ⟨ln, hln⟩ : ∃ ln, notes[mN]? = some ln := ⟨_, List.getElem?_eq_getElem (by omega)⟩
              obtain ⟨b6, o6, cs6, rfl, _, _, hrep6, hc6⟩ := Lay.row_at (Lay.row_ext (Lay.row_mono (Q := fun i => i < w.heap.size) HR2.out fun i _ hi => hi) HN.out.ext) hln
              obtain ⟨A6, n6, c6, rfl, _, hr6⟩ := hrep6
              have k6 := hc6 0 _ rfl
              rw [kLs_sz, Nat.mul_one, Nat.add_zero] at k6
              have hup := notesUp_succ notes x.nts hm
              rw [show ((mN : Int)).toNat = mN by omega, hln, Option.getD_some] at hup
              have hle := notesUp_le notes x.nts (j + 1)
              rw [hup, List.length_append] at hle
              obtain rfl := Lay.row_len hr6
              obtain ⟨A9, c9, w9, hrun, ho9, hb9, hk9, hs9, hn9⟩ := Lay.que_append (k := kLn) (Pr := Tryz.prog) (t := 82) Tryz.underlying82 info86 rfl (by decide) (by omega) (Lay.que_keep (W' := wr.drew) HN.out.que (Nat.le_refl _) fun _ _ _ => rfl) (A := A6) (m := ln.length) (ys := ln) (Lay.row_mono (Lay.row_keep (W' := wr.drew) hr6 (Nat.le_refl _) fun _ _ _ => rfl) fun i hi _ => ⟨hi, fun e => by have := Lay.que_lt HN.out.que i e; omega⟩) c6 (by have := congrArg List.length HQJ.out; rw [List.length_append] at this; omega) (by have := HN.out.c10.lt; exact this)
              obtain ⟨D9, hN9⟩ := HN.out.step (by omega) ho9 hb9 hk9 hs9 hn9
              obtain ⟨L9, hL9⟩ : ∃ L9, qj.length + ln.length = L9 := ⟨_, rfl⟩
              rw [hL9] at hN9 hrun
              rw [← HQJ.out, List.append_assoc, ← hup] at hN9
              have HN9 := Lib.hid hN9
              have HRUN := Lib.hid hrun
              have r9 := D9.cell
              have f9 := D9.frozen
              have r10 := HN.out.c10.cell
              have hmI : (mN : Int) < (nn : Int) := by have := HE2.out; omega
              have hnn5 : (nn : Int) ≤ 100000 := by omega
              clear hL9 hN9 hrun ho9 hb9 hk9 hs9 hn9 D9 hr6 hc6 hup hle hm hln
              go_wp2_with fail
              go_still_tail 5, (by kernel_rfl)
              change wpList _ _ _ _ _ wr.drew
              refine wpList_append_run (s := .tmp 52) (x := .tmp 56) HRUN.out rfl rfl rfl rfl rfl ?_
              go_wp2_with fail
              go_roundw
              case rel => exact ⟨j + 1, _, by have := HEn.out; omega, by simp, HN9.out⟩
              case measure => simp only [toM]; omega
end Go.Proofs.YtdbnddmncbjobaaGreatDoor
