/- The contract of lexer's 'day'. -/
import Derived.Test.YtbmcplnfamgpcaaDoorDq
namespace Go.Proofs.YtbmcplnfamgpcaaDoor
open Go Go.RowKit

def formL : List UInt8 := [64, 100, 100, 100, 100, 45, 100, 100, 45, 100, 100]
/-- A byte fits the form's byte. -/
def fit (f c : UInt8) : Bool := if f = 100 then dig c else decide (c = f)
theorem dated11 (a0 a1 a2 a3 a4 a5 a6 a7 a8 a9 a10 : UInt8) (r : List UInt8) : dated (a0 :: a1 :: a2 :: a3 :: a4 :: a5 :: a6 :: a7 :: a8 :: a9 :: a10 :: r) = true ↔
    (dig a1 = true ∧ dig a2 = true ∧ dig a3 = true ∧ dig a4 = true ∧ a5 = 45 ∧ dig a6 = true ∧ dig a7 = true ∧ a8 = 45 ∧ dig a9 = true ∧ dig a10 = true) := by
  simp [dated, and_assoc]
theorem dated_fit {s : List UInt8} (h0 : s.head? = some 64) (hl : 11 ≤ s.length) : dated s = true ↔ ∀ (j : Nat) (c f : UInt8), s[j]? = some c → formL[j]? = some f → fit f c = true := by
  rcases s with _ | ⟨a0, _ | ⟨a1, _ | ⟨a2, _ | ⟨a3, _ | ⟨a4, _ | ⟨a5, _ | ⟨a6, _ | ⟨a7, _ | ⟨a8, _ | ⟨a9, _ | ⟨a10, r⟩⟩⟩⟩⟩⟩⟩⟩⟩⟩⟩ <;> try (simp at hl; done)
  rw [dated11]
  have e0 : a0 = 64 := by simpa using h0
  constructor
  · rintro ⟨h1, h2, h3, h4, h5, h6, h7, h8, h9, h10⟩ j c f hc hf
    rcases (by
      have : j < formL.length := by
        rcases Nat.lt_or_ge j formL.length with h | h
        · exact h
        · rw [List.getElem?_eq_none h] at hf; cases hf
      have e : formL.length = 11 := rfl
      omega : j = 0 ∨ j = 1 ∨ j = 2 ∨ j = 3 ∨ j = 4 ∨ j = 5 ∨ j = 6 ∨ j = 7 ∨ j = 8 ∨ j = 9 ∨ j = 10) with rfl | rfl | rfl | rfl | rfl | rfl | rfl | rfl | rfl | rfl | rfl <;>
      (simp [formL] at hc hf; subst hc; subst hf; simp [fit, *])
  · intro h
    refine ⟨h 1 a1 100 rfl rfl, h 2 a2 100 rfl rfl, h 3 a3 100 rfl rfl, h 4 a4 100 rfl rfl, ?_, h 6 a6 100 rfl rfl, h 7 a7 100 rfl rfl, ?_, h 9 a9 100 rfl rfl, h 10 a10 100 rfl rfl⟩
    · have := h 5 a5 45 rfl rfl; simpa [fit] using this
    · have := h 8 a8 45 rfl rfl; simpa [fit] using this
theorem ten_of {s : ByteArray} (h : dated s.data.toList = true) : Ten (s.extract 1 11) := by
  have hl : 11 ≤ s.data.toList.length := by simp only [dated, Bool.and_eq_true, decide_eq_true_eq] at h; exact h.1
  have hs : 11 ≤ s.size := by rw [← list_size]; exact hl
  have e := extract_list s 1 11
  generalize s.data.toList = l at *
  rcases l with _ | ⟨a0, _ | ⟨a1, _ | ⟨a2, _ | ⟨a3, _ | ⟨a4, _ | ⟨a5, _ | ⟨a6, _ | ⟨a7, _ | ⟨a8, _ | ⟨a9, _ | ⟨a10, r⟩⟩⟩⟩⟩⟩⟩⟩⟩⟩⟩ <;> try (simp at hl; done)
  rw [dated11] at h
  obtain ⟨h1, h2, h3, h4, h5, h6, h7, h8, h9, h10⟩ := h
  refine ⟨by rw [ByteArray.size_extract]; omega, ?_, ?_, ?_, ?_, ?_⟩ <;> rw [e] <;> simp [*]
theorem dayP_of (s : ByteArray) : dayP ((s.data.toList.drop 1).take 10) =
    if dateB (yOf (s.extract 1 11)) (mOf (s.extract 1 11)) (dOf (s.extract 1 11)) then some (dayNo (yOf (s.extract 1 11)) (mOf (s.extract 1 11)) (dOf (s.extract 1 11))) else none := by
  unfold dayP yOf mOf dOf
  rw [extract_list]
  rfl
end Go.Proofs.YtbmcplnfamgpcaaDoor
