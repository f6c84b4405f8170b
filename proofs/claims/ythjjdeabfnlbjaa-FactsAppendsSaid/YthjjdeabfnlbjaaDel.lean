/- clear on the rest of a row of the call's own. -/
import Derived.Test.YthjjdeabfnlbjaaAt
namespace Go.Proofs.Ythjjdeabfnlbjaa
open Go Go.RowKit

theorem run_clear_own {P : Program} {w : World} {base : Nat} {t e ty : TypeId} {z : Value} {size : Nat} (ht : P.underlying t = some (.slice e)) (hz : (zeroValue e).run P w = .ok z w) (hzs : z.cells.size = size) (hz1 : ∀ u ∈ z.cells.toList, u.oneCell' = true)
    {g n cap : Nat} {xs : List Value} (hown : w.ownsRow base e size (.slice (some ⟨g, 0, none⟩) n cap) n xs) {i : Nat} (hi : i ≤ n) (c' : Nat) (A : Option Addr) (hA : i < n → A = some ⟨g, i * size, none⟩) :
    ∃ w', (Builtin.clear_ #[t] ty #[.slice A (n - i) c']).run P w = .ok (.tuple #[]) w' ∧ w'.ownsRow base e size (.slice (some ⟨g, 0, none⟩) i cap) i (xs.take (i * size)) ∧ w.grownBy w' (some g) := by
  obtain ⟨hxl, hh⟩ := hown
  rcases hh with ⟨h1, _⟩ | ⟨g', cap', cur, h1, hb, hg, hn, hm, hcs, htake⟩
  · simp at h1
  · simp only [Value.slice.injEq, Option.some.injEq, Addr.mk.injEq, and_true, true_and] at h1
    obtain ⟨rfl, rfl⟩ := h1
    have hmul : i * size ≤ n * size := Nat.mul_le_mul_right _ hi
    have hmul2 : n * size ≤ cap * size := Nat.mul_le_mul_right _ hn
    by_cases hin : i < n
    · obtain rfl := hA hin
      have hlen : (Builtin.zeroCells z.cells (n - i)).toList.length = (n - i) * size := by rw [Array.length_toList, size_zeroCells, hzs]
      have hfit : i * size + 0 + (Builtin.zeroCells z.cells (n - i)).toList.length ≤ cur.size := by rw [hlen, hcs, Nat.sub_mul]; omega
      have hone : ∀ v ∈ (Builtin.zeroCells z.cells (n - i)).toList, v.oneCell' = true := by
        intro v hv
        simp only [Builtin.zeroCells] at hv
        obtain ⟨j, hj, rfl⟩ := List.mem_map.1 (by simpa only [Array.toList_map] using hv)
        have hj2 : j < (n - i) * z.cells.size := by simpa using hj
        have hpos : 0 < z.cells.size := by
          rcases Nat.eq_zero_or_pos z.cells.size with h | h
          · rw [h] at hj2; simp at hj2
          · exact h
        have hlt := Nat.mod_lt j hpos
        rw [getElem!_pos z.cells (j % z.cells.size) hlt]
        exact hz1 _ (by simp)
      have hr := run_storeCells_at P g (i * size) e (Builtin.zeroCells z.cells (n - i)).toList 0 cur w hg hfit hone
      have hne : n - i ≠ 0 := by omega
      obtain ⟨k, hk⟩ : ∃ k, n - i = k + 1 := ⟨n - i - 1, by omega⟩
      refine ⟨w.setRow g (cur.toList.take (i * size + 0) ++ (Builtin.zeroCells z.cells (n - i)).toList ++ cur.toList.drop (i * size + 0 + (Builtin.zeroCells z.cells (n - i)).toList.length)).toArray, ?_, ⟨?_, .inr ⟨g, cap, (cur.toList.take (i * size + 0) ++ (Builtin.zeroCells z.cells (n - i)).toList ++ cur.toList.drop (i * size + 0 + (Builtin.zeroCells z.cells (n - i)).toList.length)).toArray, rfl, hb, setRow_heap w g cur _ e _ hg, Nat.le_trans hi hn, hm, ?_, ?_⟩⟩, ⟨rfl, rfl, rfl, by simp, fun j _ hj => setRow_other w g j _ (fun e => hj (by rw [e]))⟩⟩
      · rw [hk] at hr ⊢
        simp only [Builtin.clear_, List.getElem?_toArray, List.getElem?_cons_zero, Sem.run_bind, run_underlying ht, Result.andThen, hz, hr, Sem.run_pure]
      · rw [List.length_take, hxl]; omega
      · simp only [List.size_toArray, List.length_append, List.length_take, List.length_drop, Array.length_toList, hlen, hcs, Nat.sub_mul]
        have : (n - i) * size = n * size - i * size := Nat.sub_mul _ _ _
        omega
      · rw [← htake, List.take_take, Nat.min_eq_left hmul]
        simp only [Nat.add_zero, List.append_assoc]
        rw [List.take_append_of_le_length (by rw [List.length_take, Array.length_toList, hcs]; omega), List.take_take, Nat.min_self]
    · obtain rfl : i = n := by omega
      refine ⟨w, ?_, ⟨by rw [List.take_of_length_le (by rw [hxl]; exact Nat.le_refl _)]; exact hxl, .inr ⟨g, cap, cur, rfl, hb, hg, hn, hm, hcs, by rw [← htake, List.take_take, Nat.min_self]⟩⟩, World.grownBy.refl w _⟩
      rw [Nat.sub_self]
      cases A <;> simp [Builtin.clear_, run_underlying ht, Result.andThen]
end Go.Proofs.Ythjjdeabfnlbjaa
