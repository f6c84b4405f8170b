/- The contract of the reference's Parse of a label. -/
import Derived.Test.YtbfogchdeijedaaDoorRNum
namespace Go.Proofs.YtbfogchdeijedaaDoor
open Go Go.RowKit

/-- A box of two numbers, not frozen. -/
structure Pr (W : World) (b : Nat) (v0 v1 : Int) : Prop where
  lt : b < W.heap.size
  c0 : W.cell? ⟨b, 0, none⟩ = some (.int .i64 v0)
  c1 : W.cell? ⟨b, 1, none⟩ = some (.int .i64 v1)
  f0 : W.frozen? ⟨b, 0, none⟩ = false
  f1 : W.frozen? ⟨b, 1, none⟩ = false
theorem Pr.ext {W W' : World} {b : Nat} {v0 v1 : Int} (h : Pr W b v0 v1) (hx : Ext W W') : Pr W' b v0 v1 := by
  obtain ⟨q, p⟩ := hx.cells
  exact ⟨Nat.lt_of_lt_of_le h.lt hx.lt, by rw [q _ _ h.lt]; exact h.c0, by rw [q _ _ h.lt]; exact h.c1, by rw [p _ _ h.lt]; exact h.f0, by rw [p _ _ h.lt]; exact h.f1⟩
theorem Pr.new (W : World) (v0 v1 : Int) (t : TypeId) : Pr (W.alloc (.cells #[.int .i64 v0, .int .i64 v1] t)) W.heap.size v0 v1 :=
  ⟨by simp, by go_simp, by go_simp, by go_simp, by go_simp⟩
theorem Pr.other {W : World} {b : Nat} {v0 v1 : Int} (h : Pr W b v0 v1) {b' o : Nat} (hne : b' ≠ b) (u : Value) : Pr (W.setCell ⟨b', o, none⟩ u) b v0 v1 := by
  have e : ∀ i, (W.setCell ⟨b', o, none⟩ u).cell? ⟨b, i, none⟩ = W.cell? ⟨b, i, none⟩ := fun i => World.cell?_setCell_other _ _ _ _ (by intro e; injection e with e1; exact hne e1)
  have f : ∀ i, (W.setCell ⟨b', o, none⟩ u).frozen? ⟨b, i, none⟩ = W.frozen? ⟨b, i, none⟩ := fun i => by rw [World.frozen?_setCell]
  exact ⟨by simpa using h.lt, by rw [e]; exact h.c0, by rw [e]; exact h.c1, by rw [f]; exact h.f0, by rw [f]; exact h.f1⟩
theorem Pr.set0 {W : World} {b : Nat} {v0 v1 : Int} (h : Pr W b v0 v1) (u : Int) : Pr (W.setCell ⟨b, 0, none⟩ (.int .i64 u)) b u v1 := by
  have f : ∀ i, (W.setCell ⟨b, 0, none⟩ (.int .i64 u)).frozen? ⟨b, i, none⟩ = W.frozen? ⟨b, i, none⟩ := fun i => by rw [World.frozen?_setCell]
  exact ⟨by simpa using h.lt, World.cell?_setCell_same _ _ _ h.c0, by rw [World.cell?_setCell_other _ _ _ _ (by intro e; injection e with _ e2; cases e2)]; exact h.c1, by rw [f]; exact h.f0, by rw [f]; exact h.f1⟩
theorem Pr.set1 {W : World} {b : Nat} {v0 v1 : Int} (h : Pr W b v0 v1) (u : Int) : Pr (W.setCell ⟨b, 1, none⟩ (.int .i64 u)) b v0 u := by
  have f : ∀ i, (W.setCell ⟨b, 1, none⟩ (.int .i64 u)).frozen? ⟨b, i, none⟩ = W.frozen? ⟨b, i, none⟩ := fun i => by rw [World.frozen?_setCell]
  exact ⟨by simpa using h.lt, by rw [World.cell?_setCell_other _ _ _ _ (by intro e; injection e with _ e2; cases e2)]; exact h.c0, World.cell?_setCell_same _ _ _ h.c1, by rw [f]; exact h.f0, by rw [f]; exact h.f1⟩
/-- How many digits stand ahead. -/
def nd (l : List UInt8) : Nat := (l.takeWhile dig).length
theorem tw_of {l : List UInt8} {d : Nat} (h : (l.take d).all dig = true) (hd : d ≤ l.length) (h2 : ∀ c, (l.drop d).head? = some c → dig c = false) : l.takeWhile dig = l.take d ∧ l.dropWhile dig = l.drop d := by
  have key : ∀ (a b : List UInt8), a.all dig = true → (∀ c, b.head? = some c → dig c = false) → (a ++ b).takeWhile dig = a ∧ (a ++ b).dropWhile dig = b := by
    intro a b ha hb
    induction a with
    | nil =>
      cases b with
      | nil => exact ⟨rfl, rfl⟩
      | cons c b => have := hb c rfl; simp [this]
    | cons x a ih =>
      simp only [List.all_cons, Bool.and_eq_true] at ha
      have := ih ha.2
      simp [ha.1, this]
  have := key (l.take d) (l.drop d) h h2
  rwa [List.take_append_drop] at this
theorem rl_none {l : List UInt8} {d : Nat} (h1 : l.takeWhile dig = l.take d) (h2 : l.dropWhile dig = l.drop d) (hd : d ≤ l.length) (h : d < 1 ∨ 5 < d ∨ l.head? = some 48 ∨ 4 < l.length - d) : labR (labP l) = (0, 0, 7) := by
  refine lp_none ?_
  unfold labP
  rw [h1, h2, if_neg]
  rw [List.length_take, List.length_drop]
  rintro ⟨a, b, c, e, _⟩
  rcases h with h | h | h | h
  · omega
  · omega
  · exact c h
  · omega
theorem rl_bad {l : List UInt8} {d i : Nat} (h2 : l.dropWhile dig = l.drop d) (hd : d ≤ i) (hi : i < l.length) (hl : low (l[i]'hi) = false) : labR (labP l) = (0, 0, 7) := by
  refine lp_none ?_
  unfold labP
  rw [h2, if_neg]
  rintro ⟨_, _, _, _, h⟩
  have hm : l[i] ∈ l.drop d := by
    rw [List.mem_iff_getElem?]
    exact ⟨i - d, by rw [List.getElem?_drop, show d + (i - d) = i by omega]; exact List.getElem?_eq_getElem hi⟩
  rw [List.all_eq_true.1 h _ hm] at hl; cases hl
theorem rl_good {l : List UInt8} {d : Nat} (h1 : l.takeWhile dig = l.take d) (h2 : l.dropWhile dig = l.drop d) (hd : d ≤ l.length) (h3 : 1 ≤ d) (h4 : d ≤ 5) (h5 : l.head? ≠ some 48) (h6 : l.length - d ≤ 4) (h7 : (l.drop d).all low = true) :
    labP l = some (dval 0 (l.take d), sval 0 (l.drop d)) := by
  unfold labP
  rw [h1, h2, if_pos]
  rw [List.length_take, List.length_drop]
  exact ⟨by omega, by omega, h5, h6, h7⟩
end Go.Proofs.YtbfogchdeijedaaDoor
