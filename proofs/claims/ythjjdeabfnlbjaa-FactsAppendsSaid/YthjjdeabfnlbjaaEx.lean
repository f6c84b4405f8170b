/- The example of the laws: its four versions in memory, and what the plain functions say of them. -/
import Derived.Test.YthjjdeabfnlbjaaChgL
import Derived.Test.YthjjdeabfnlbjaaPlain6
namespace Go.Proofs.Ythjjdeabfnlbjaa
open Go Go.RowKit

def fa : Fc := ⟨5, ⟨#[109, 111, 116, 105, 111, 110]⟩, 10, 0, 0, 0⟩
def fb : Fc := ⟨3, ⟨#[114, 101, 112, 108, 121]⟩, 8, 0, 0, 0⟩
def fcc : Fc := ⟨5, ⟨#[109, 111, 116, 105, 111, 110]⟩, 11, 0, 0, 0⟩
def fz : Fc := ⟨5, ⟨#[]⟩, 0, 0, 0, 0⟩
def exL : List Vr := [⟨2, false, fa⟩, ⟨4, false, fb⟩, ⟨7, false, fcc⟩, ⟨9, true, fz⟩]

theorem ex_check : checkOf exL = 0 := by decide
theorem ex_w8 : wrongOf exL ⟨8, false, fa⟩ = 12 := by decide
theorem ex_w9 : wrongOf exL ⟨9, true, fa⟩ = 3 := by decide
theorem ex_en : ∀ k, k < 4 → 0 ≤ (vat exL k).fc.en ∧ (vat exL k).fc.en ≤ 5 := by decide
theorem ex_kd : ∀ k, k < 4 → (vat exL k).fc.kd.size ≤ 12 := by decide

/-- The reference's At on lists. -/
def ratStep (s : List Vr) (out : List Fc) (i : Nat) : List Fc :=
  if (vat s i).st = true ∨ lastOf (s.drop (i + 1)) (vat s i).fc.en ≠ none then out
  else out.take (out.takeWhile fun g => decide (g.en < (vat s i).fc.en)).length ++ [(vat s i).fc] ++ out.drop (out.takeWhile fun g => decide (g.en < (vat s i).fc.en)).length
def ratOf (s : List Vr) : Nat → List Fc
  | 0 => []
  | i + 1 => ratStep s (ratOf s i) i
theorem tw_lt {l : List Fc} {p : Fc → Bool} {j : Nat} (h : j < (l.takeWhile p).length) : p (fat l j) = true := by
  induction l generalizing j with
  | nil => simp at h
  | cons x l ih =>
    rw [List.takeWhile_cons] at h
    by_cases hx : p x = true
    · rw [if_pos hx] at h
      cases j with
      | zero => simpa [fat] using hx
      | succ j => have := ih (j := j) (by simpa using h); simpa [fat] using this
    · rw [if_neg hx] at h; simp at h
theorem tw_at {l : List Fc} {p : Fc → Bool} (h : (l.takeWhile p).length < l.length) : p (fat l (l.takeWhile p).length) = false := by
  induction l with
  | nil => simp at h
  | cons x l ih =>
    rw [List.takeWhile_cons] at h ⊢
    by_cases hx : p x = true
    · rw [if_pos hx] at h ⊢
      have := ih (by simpa using h)
      simpa [fat] using this
    · rw [if_neg hx]; simpa [fat] using hx
theorem ratOf_spec (s : List Vr) : ∀ i, i ≤ s.length → RAt s i (ratOf s i)
  | 0, _ => RAt.nil s
  | i + 1, hi => by
    have ih := ratOf_spec s i (by omega)
    show RAt s (i + 1) (ratStep s (ratOf s i) i)
    unfold ratStep
    by_cases h : (vat s i).st = true ∨ lastOf (s.drop (i + 1)) (vat s i).fc.en ≠ none
    · rw [if_pos h]; exact ih.skip h
    · rw [if_neg h]
      have h1 : (vat s i).st = false := by
        cases hs : (vat s i).st with
        | false => rfl
        | true => exact absurd (.inl hs) h
      have h2 : lastOf (s.drop (i + 1)) (vat s i).fc.en = none := by
        cases hs : lastOf (s.drop (i + 1)) (vat s i).fc.en with
        | none => rfl
        | some x => exact absurd (.inr (by rw [hs]; simp)) h
      refine ih.ins (by omega) h1 h2 (List.takeWhile_sublist _).length_le (fun j hj => by simpa using tw_lt hj) (fun hj => by simpa using tw_at hj)
theorem ratOf_at (l : List Vr) (op : Int) : IsAt l op (ratOf (upto l op) (upto l op).length) := RAt.done (ratOf_spec _ _ (Nat.le_refl _))
theorem ex_at {op : Int} {m m' : List Fc} (h : IsAt exL op m) (e : ratOf (upto exL op) (upto exL op).length = m') : m = m' := by
  rw [← e]; exact h.unique (ratOf_at exL op)
theorem ex_at2 : ratOf (upto exL 2) (upto exL 2).length = [fa] := by decide
theorem ex_at4 : ratOf (upto exL 4) (upto exL 4).length = [fb, fa] := by decide
theorem ex_at6 : ratOf (upto exL 6) (upto exL 6).length = [fb, fa] := by decide
theorem ex_at7 : ratOf (upto exL 7) (upto exL 7).length = [fb, fcc] := by decide
theorem ex_at8 : ratOf (upto exL 8) (upto exL 8).length = [fb, fcc] := by decide
theorem ex_at9 : ratOf (upto exL 9) (upto exL 9).length = [fb] := by decide
theorem ex_known : ([fb, fcc].filter fun f => !pDay 9 f) = [fb] := by decide
theorem ex_hist : (exL.filter fun v => !pEn 5 v).length = 3 := by decide
theorem ex_rem : wout [fb, fa] [fb, fcc] = [fa] := by decide
theorem ex_add : wout [fb, fcc] [fb, fa] = [fcc] := by decide

def ExPost (w : World) (e : Ending) (w' : World) : Prop := e = .returned (.slice (some ⟨w.heap.size, 0, none⟩) 4 4) ∧ SV w' w'.heap.size (some ⟨w.heap.size, 0, none⟩) 4 exL ∧ Ext w w'
set_option maxRecDepth 100000 in
theorem example_any (w : World) : Calls Try.prog 34 #[] w (ExPost w) := by
  go_enter Try.func34, Try.ntmps34
  go_wp2
  go_ret
  refine ⟨rfl, ⟨rfl, fun _ => ⟨w.heap.size, 0, rfl, by simp, fun i hi j u hu => ?_⟩⟩, (Ext.refl w).alloc _⟩
  rw [cell_of_row _ w.heap.size _ _ 32 (0, 0) (heap_alloc_new w _)]
  have hj : j < 8 := (List.getElem?_eq_some_iff.1 hu).1
  rcases (by omega : i = 0 ∨ i = 1 ∨ i = 2 ∨ i = 3) with rfl | rfl | rfl | rfl <;>
    rcases (by omega : j = 0 ∨ j = 1 ∨ j = 2 ∨ j = 3 ∨ j = 4 ∨ j = 5 ∨ j = 6 ∨ j = 7) with rfl | rfl | rfl | rfl | rfl | rfl | rfl | rfl <;> exact hu
end Go.Proofs.Ythjjdeabfnlbjaa
