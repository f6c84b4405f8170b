/- Plain lists, continued: valid lists grow by valid versions. -/
import Derived.Test.YthjjdeabfnlbjaaPlain2
namespace Go.Proofs.Ythjjdeabfnlbjaa

theorem vat_append_left {a b : List Vr} {k : Nat} (h : k < a.length) : vat (a ++ b) k = vat a k := by simp [vat, List.getElem?_append_left h]
theorem vat_append_last (a : List Vr) (v : Vr) : vat (a ++ [v]) a.length = v := by simp [vat]
theorem checkAux_append (a b : List Vr) : ∀ k, k ≤ a.length → checkAux (a ++ b) k = checkAux a k
  | 0, _ => rfl
  | k + 1, h => by
    have ih := checkAux_append a b k (by omega)
    simp only [checkAux, ih]
    have h1 : k < (a ++ b).length := by simp; omega
    have h2 : k < a.length := by omega
    rw [if_pos h1, if_pos h2, vat_append_left h2, List.take_append_of_le_length (by omega)]
theorem checkOf_snoc (a : List Vr) (v : Vr) (h : checkOf a = 0) : checkOf (a ++ [v]) = wrongOf a v := by
  have e : checkOf (a ++ [v]) = checkAux (a ++ [v]) (a.length + 1) := by simp [checkOf]
  have h0 : checkAux (a ++ [v]) a.length = 0 := by rw [checkAux_append a [v] a.length (Nat.le_refl _)]; exact h
  rw [e, check_step (by simp) h0, vat_append_last]
  simp

/-- A list of versions as the statements make them: valid, with valid facts of the entries 0 to 5, up to the operation 'top'. -/
structure GoodV (l : List Vr) (top : Int) : Prop where
  ok : checkOf l = 0
  fact : ∀ k, k < l.length → okF (vat l k).fc = true ∧ 0 ≤ (vat l k).fc.en ∧ (vat l k).fc.en ≤ 5
  ops : ∀ k, k < l.length → 0 ≤ (vat l k).op ∧ (vat l k).op ≤ top
theorem GoodV.nil : GoodV [] 0 := ⟨rfl, fun k h => absurd h (by simp), fun k h => absurd h (by simp)⟩
theorem GoodV.snoc {l : List Vr} {top op : Int} {v : Vr} (h : GoodV l top) (h0 : 0 ≤ op) (ht : top ≤ op) (hv : v.op = op) (hf : okF v.fc = true) (h1 : 0 ≤ v.fc.en) (h2 : v.fc.en ≤ 5) (hw : wrongOf l v = 0) : GoodV (l ++ [v]) op := by
  have key : ∀ k, k < (l ++ [v]).length → (k < l.length ∧ vat (l ++ [v]) k = vat l k) ∨ vat (l ++ [v]) k = v := fun k hk => by
    by_cases hl : k < l.length
    · exact .inl ⟨hl, vat_append_left hl⟩
    · obtain rfl : k = l.length := by simp at hk; omega
      exact .inr (vat_append_last l v)
  refine ⟨by rw [checkOf_snoc l v h.ok]; exact hw, fun k hk => ?_, fun k hk => ?_⟩
  · rcases key k hk with ⟨hl, e⟩ | e
    · rw [e]; exact h.fact k hl
    · rw [e]; exact ⟨hf, h1, h2⟩
  · rcases key k hk with ⟨hl, e⟩ | e
    · rw [e]; have := h.ops k hl; omega
    · rw [e, hv]; omega
theorem okF_in {f : Fc} (h : okF f = true) : inB f.en 0 65535 = true := by simp only [okF, Bool.and_eq_true] at h; exact h.1
theorem GoodV.plain {l : List Vr} {top : Int} {v : Vr} (h : GoodV l top) (h0 : 0 ≤ v.op) (ht : top ≤ v.op) (hf : okF v.fc = true) (hs : v.st = false) : wrongOf l v = 0 := by
  rw [wrongOf_end (by omega) (by simp [hf]) (okF_in hf) (fun hh => by have := h.ops (l.length - 1) (by omega); omega)]
  simp [hs]
theorem okF_size {f : Fc} (h : okF f = true) : f.kd.size ≤ 12 := by
  simp only [okF, wordB, Bool.and_eq_true, decide_eq_true_eq] at h
  exact h.2.1.1.1.2
end Go.Proofs.Ythjjdeabfnlbjaa
