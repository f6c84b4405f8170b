/- Boxes of four cells; the world in which cite.Parse calls its closures. -/
import Derived.Test.YtbfogchdeijedaaDoorNum
namespace Go.Proofs.YtbfogchdeijedaaDoor
open Go Go.RowKit

/-- A box of four numbers, not frozen. -/
structure Box (W : World) (b : Nat) (v0 v1 v2 v3 : Int) : Prop where
  lt : b < W.heap.size
  c0 : W.cell? ⟨b, 0, none⟩ = some (.int .i64 v0)
  c1 : W.cell? ⟨b, 1, none⟩ = some (.int .i64 v1)
  c2 : W.cell? ⟨b, 2, none⟩ = some (.int .i64 v2)
  c3 : W.cell? ⟨b, 3, none⟩ = some (.int .i64 v3)
  f0 : W.frozen? ⟨b, 0, none⟩ = false
  f1 : W.frozen? ⟨b, 1, none⟩ = false
  f2 : W.frozen? ⟨b, 2, none⟩ = false
  f3 : W.frozen? ⟨b, 3, none⟩ = false
theorem Box.keep {w W W' : World} {b : Nat} {v0 v1 v2 v3 : Int} (h : Box W b v0 v1 v2 v3) (k : Keep w W W') (h1 : b ≠ w.heap.size + 1) (h2 : b ≠ w.heap.size + 2) : Box W' b v0 v1 v2 v3 :=
  ⟨Nat.lt_of_lt_of_le h.lt k.size, by rw [k.cell _ _ h1 h2 h.lt]; exact h.c0, by rw [k.cell _ _ h1 h2 h.lt]; exact h.c1, by rw [k.cell _ _ h1 h2 h.lt]; exact h.c2, by rw [k.cell _ _ h1 h2 h.lt]; exact h.c3,
    by rw [k.frozen _ _ h1 h2 h.lt]; exact h.f0, by rw [k.frozen _ _ h1 h2 h.lt]; exact h.f1, by rw [k.frozen _ _ h1 h2 h.lt]; exact h.f2, by rw [k.frozen _ _ h1 h2 h.lt]; exact h.f3⟩
theorem Box.ext {W W' : World} {b : Nat} {v0 v1 v2 v3 : Int} (h : Box W b v0 v1 v2 v3) (hx : Ext W W') : Box W' b v0 v1 v2 v3 := by
  obtain ⟨q, p⟩ := hx.cells
  exact ⟨Nat.lt_of_lt_of_le h.lt hx.lt, by rw [q _ _ h.lt]; exact h.c0, by rw [q _ _ h.lt]; exact h.c1, by rw [q _ _ h.lt]; exact h.c2, by rw [q _ _ h.lt]; exact h.c3,
    by rw [p _ _ h.lt]; exact h.f0, by rw [p _ _ h.lt]; exact h.f1, by rw [p _ _ h.lt]; exact h.f2, by rw [p _ _ h.lt]; exact h.f3⟩
theorem Box.new (W : World) (v0 v1 v2 v3 : Int) (t : TypeId) : Box (W.alloc (.cells #[.int .i64 v0, .int .i64 v1, .int .i64 v2, .int .i64 v3] t)) W.heap.size v0 v1 v2 v3 :=
  ⟨by simp, by go_simp, by go_simp, by go_simp, by go_simp, by go_simp, by go_simp, by go_simp, by go_simp⟩
theorem Box.other {W : World} {b : Nat} {v0 v1 v2 v3 : Int} (h : Box W b v0 v1 v2 v3) {b' o : Nat} (hne : b' ≠ b) (u : Value) : Box (W.setCell ⟨b', o, none⟩ u) b v0 v1 v2 v3 := by
  have e : ∀ i, (W.setCell ⟨b', o, none⟩ u).cell? ⟨b, i, none⟩ = W.cell? ⟨b, i, none⟩ := fun i => World.cell?_setCell_other _ _ _ _ (by intro e; injection e with e1; exact hne e1)
  have f : ∀ i, (W.setCell ⟨b', o, none⟩ u).frozen? ⟨b, i, none⟩ = W.frozen? ⟨b, i, none⟩ := fun i => by rw [World.frozen?_setCell]
  exact ⟨by simpa using h.lt, by rw [e]; exact h.c0, by rw [e]; exact h.c1, by rw [e]; exact h.c2, by rw [e]; exact h.c3, by rw [f]; exact h.f0, by rw [f]; exact h.f1, by rw [f]; exact h.f2, by rw [f]; exact h.f3⟩
theorem Box.set0 {W : World} {b : Nat} {v0 v1 v2 v3 : Int} (h : Box W b v0 v1 v2 v3) (u : Int) : Box (W.setCell ⟨b, 0, none⟩ (.int .i64 u)) b u v1 v2 v3 := by
  have e : ∀ i, i ≠ 0 → (W.setCell ⟨b, 0, none⟩ (.int .i64 u)).cell? ⟨b, i, none⟩ = W.cell? ⟨b, i, none⟩ := fun i hi => World.cell?_setCell_other _ _ _ _ (by intro e; injection e with e1 e2; exact hi e2.symm)
  have f : ∀ i, (W.setCell ⟨b, 0, none⟩ (.int .i64 u)).frozen? ⟨b, i, none⟩ = W.frozen? ⟨b, i, none⟩ := fun i => by rw [World.frozen?_setCell]
  exact ⟨by simpa using h.lt, World.cell?_setCell_same _ _ _ h.c0, by rw [e _ (by omega)]; exact h.c1, by rw [e _ (by omega)]; exact h.c2, by rw [e _ (by omega)]; exact h.c3, by rw [f]; exact h.f0, by rw [f]; exact h.f1, by rw [f]; exact h.f2, by rw [f]; exact h.f3⟩
theorem Box.set1 {W : World} {b : Nat} {v0 v1 v2 v3 : Int} (h : Box W b v0 v1 v2 v3) (u : Int) : Box (W.setCell ⟨b, 1, none⟩ (.int .i64 u)) b v0 u v2 v3 := by
  have e : ∀ i, i ≠ 1 → (W.setCell ⟨b, 1, none⟩ (.int .i64 u)).cell? ⟨b, i, none⟩ = W.cell? ⟨b, i, none⟩ := fun i hi => World.cell?_setCell_other _ _ _ _ (by intro e; injection e with e1 e2; exact hi e2.symm)
  have f : ∀ i, (W.setCell ⟨b, 1, none⟩ (.int .i64 u)).frozen? ⟨b, i, none⟩ = W.frozen? ⟨b, i, none⟩ := fun i => by rw [World.frozen?_setCell]
  exact ⟨by simpa using h.lt, by rw [e _ (by omega)]; exact h.c0, World.cell?_setCell_same _ _ _ h.c1, by rw [e _ (by omega)]; exact h.c2, by rw [e _ (by omega)]; exact h.c3, by rw [f]; exact h.f0, by rw [f]; exact h.f1, by rw [f]; exact h.f2, by rw [f]; exact h.f3⟩
theorem Box.set2 {W : World} {b : Nat} {v0 v1 v2 v3 : Int} (h : Box W b v0 v1 v2 v3) (u : Int) : Box (W.setCell ⟨b, 2, none⟩ (.int .i64 u)) b v0 v1 u v3 := by
  have e : ∀ i, i ≠ 2 → (W.setCell ⟨b, 2, none⟩ (.int .i64 u)).cell? ⟨b, i, none⟩ = W.cell? ⟨b, i, none⟩ := fun i hi => World.cell?_setCell_other _ _ _ _ (by intro e; injection e with e1 e2; exact hi e2.symm)
  have f : ∀ i, (W.setCell ⟨b, 2, none⟩ (.int .i64 u)).frozen? ⟨b, i, none⟩ = W.frozen? ⟨b, i, none⟩ := fun i => by rw [World.frozen?_setCell]
  exact ⟨by simpa using h.lt, by rw [e _ (by omega)]; exact h.c0, by rw [e _ (by omega)]; exact h.c1, World.cell?_setCell_same _ _ _ h.c2, by rw [e _ (by omega)]; exact h.c3, by rw [f]; exact h.f0, by rw [f]; exact h.f1, by rw [f]; exact h.f2, by rw [f]; exact h.f3⟩
theorem Box.set3 {W : World} {b : Nat} {v0 v1 v2 v3 : Int} (h : Box W b v0 v1 v2 v3) (u : Int) : Box (W.setCell ⟨b, 3, none⟩ (.int .i64 u)) b v0 v1 v2 u := by
  have e : ∀ i, i ≠ 3 → (W.setCell ⟨b, 3, none⟩ (.int .i64 u)).cell? ⟨b, i, none⟩ = W.cell? ⟨b, i, none⟩ := fun i hi => World.cell?_setCell_other _ _ _ _ (by intro e; injection e with e1 e2; exact hi e2.symm)
  have f : ∀ i, (W.setCell ⟨b, 3, none⟩ (.int .i64 u)).frozen? ⟨b, i, none⟩ = W.frozen? ⟨b, i, none⟩ := fun i => by rw [World.frozen?_setCell]
  exact ⟨by simpa using h.lt, by rw [e _ (by omega)]; exact h.c0, by rw [e _ (by omega)]; exact h.c1, by rw [e _ (by omega)]; exact h.c2, World.cell?_setCell_same _ _ _ h.c3, by rw [f]; exact h.f0, by rw [f]; exact h.f1, by rw [f]; exact h.f2, by rw [f]; exact h.f3⟩
theorem Box.store {W : World} {b : Nat} {v0 v1 v2 v3 : Int} (h : Box W b v0 v1 v2 v3) (u0 u1 u2 u3 : Int) :
    Box ((((W.setCell ⟨b, 0, none⟩ (.int .i64 u0)).setCell ⟨b, 1, none⟩ (.int .i64 u1)).setCell ⟨b, 2, none⟩ (.int .i64 u2)).setCell ⟨b, 3, none⟩ (.int .i64 u3)) b u0 u1 u2 u3 :=
  (((h.set0 u0).set1 u1).set2 u2).set3 u3
theorem PSt.other {w W : World} {r : ByteArray} {k : Bool} (h : PSt w W r k) {b o : Nat} (h0 : w.heap.size ≤ b) (h1 : b ≠ w.heap.size + 1) (h2 : b ≠ w.heap.size + 2) (u : Value) : PSt w (W.setCell ⟨b, o, none⟩ u) r k :=
  ⟨h.ext.setCell h0 _, by simpa using h.size, by rw [World.cell?_setCell_other _ _ _ _ (by intro e; injection e with e1; exact h1 e1)]; exact h.rest,
    by rw [World.cell?_setCell_other _ _ _ _ (by intro e; injection e with e1; exact h2 e1)]; exact h.ok, by rw [World.frozen?_setCell]; exact h.frest, by rw [World.frozen?_setCell]; exact h.fok⟩
/-- The world in which the first closure is called. -/
def start (w : World) (s : ByteArray) : World := ((w.alloc (.cells #[.int .i64 0, .int .i64 0, .int .i64 0, .int .i64 0] 25)).alloc (.cells #[.string s] 9)).alloc (.cells #[.bool true] 4)
theorem pst_start (w : World) (s : ByteArray) : PSt w (start w s) s true ∧ Box (start w s) w.heap.size 0 0 0 0 := by
  unfold start
  refine ⟨⟨(((Ext.refl w).alloc _).alloc _).alloc _, by simp, by go_simp, by go_simp, by go_simp, by go_simp⟩, ?_⟩
  exact ((Box.new w 0 0 0 0 25).ext ((Ext.refl _).alloc _)).ext ((Ext.refl _).alloc _)
end Go.Proofs.YtbfogchdeijedaaDoor
