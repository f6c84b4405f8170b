/- Plain lists, continued: what the reference's At gathers, version by version. -/
import Derived.Test.YthjjdeabfnlbjaaPlain5
namespace Go.Proofs.Ythjjdeabfnlbjaa

theorem vat_mem {l : List Vr} {k : Nat} (h : k < l.length) : vat l k ∈ l := List.mem_of_getElem? (vat_eq h)
theorem fat_mem {l : List Fc} {k : Nat} (h : k < l.length) : fat l k ∈ l := List.mem_of_getElem? (fat_eq h)
theorem mem_vat {l : List Vr} {v : Vr} (h : v ∈ l) : ∃ k, k < l.length ∧ vat l k = v := by
  obtain ⟨i, hi, he⟩ := List.mem_iff_getElem.1 h
  exact ⟨i, hi, by simp [vat, hi, he]⟩
theorem mem_fat {l : List Fc} {v : Fc} (h : v ∈ l) : ∃ k, k < l.length ∧ fat l k = v := by
  obtain ⟨i, hi, he⟩ := List.mem_iff_getElem.1 h
  exact ⟨i, hi, by simp [fat, hi, he]⟩
/-- On a list in the order of the operations, the versions up to an operation are a first part. -/
theorem upto_split {l : List Vr} (hs : ∀ i j, i ≤ j → j < l.length → (vat l i).op ≤ (vat l j).op) {op : Int} {k : Nat} (hk : k ≤ l.length) (h1 : ∀ j, j < k → (vat l j).op ≤ op) (h2 : k < l.length → op < (vat l k).op) : upto l op = l.take k := by
  have e := List.take_append_drop k l
  unfold upto
  conv => lhs; rw [← e]
  rw [List.filter_append, List.filter_eq_self.2, List.filter_eq_nil_iff.2, List.append_nil]
  · intro v hv
    obtain ⟨j, hj, rfl⟩ := mem_vat hv
    simp at hj
    have e1 : vat (l.drop k) j = vat l (k + j) := by simp [vat]
    rw [e1]
    have := h2 (by omega)
    have := hs k (k + j) (by omega) (by omega)
    simp; omega
  · intro v hv
    obtain ⟨j, hj, rfl⟩ := mem_vat hv
    simp only [List.length_take] at hj
    have hj' : j < k := by omega
    have e1 : vat (l.take k) j = vat l j := by simp [vat, hj']
    rw [e1]
    simpa using h1 j hj'
theorem lastOf_none_all {l : List Vr} {en : Int} (h : lastOf l en = none) : ∀ v ∈ l, v.fc.en ≠ en := by
  induction l with
  | nil => intro v hv; cases hv
  | cons u l ih =>
    simp only [lastOf] at h
    cases hl : lastOf l en with
    | some x => rw [hl] at h; simp at h
    | none =>
      rw [hl] at h; simp only at h
      intro v hv
      rcases List.mem_cons.1 hv with e | e
      · subst e; intro hu; rw [if_pos hu] at h; cases h
      · exact ih hl v e
theorem lastOf_some_iff {s : List Vr} {en : Int} {v : Vr} : lastOf s en = some v ↔ ∃ j, j < s.length ∧ vat s j = v ∧ v.fc.en = en ∧ lastOf (s.drop (j + 1)) en = none := by
  induction s with
  | nil => simp [lastOf]
  | cons u s ih =>
    simp only [lastOf]
    cases hl : lastOf s en with
    | some x =>
      simp only
      rw [← hl, ih]
      constructor
      · rintro ⟨j, h1, h2, h3, h4⟩
        exact ⟨j + 1, by simp; omega, by simpa [vat] using h2, h3, by simpa using h4⟩
      · rintro ⟨j, h1, h2, h3, h4⟩
        cases j with
        | zero => simp at h4; rw [h4] at hl; cases hl
        | succ j => exact ⟨j, by simpa using h1, by simpa [vat] using h2, h3, by simpa using h4⟩
    | none =>
      simp only
      by_cases hu : u.fc.en = en
      · rw [if_pos hu]
        constructor
        · intro e; cases e; exact ⟨0, by simp, by simp [vat], hu, by simpa using hl⟩
        · rintro ⟨j, h1, h2, h3, h4⟩
          cases j with
          | zero => simp [vat] at h2; rw [h2]
          | succ j =>
            exfalso
            have hm : v ∈ s := by
              have : vat s j = v := by simpa [vat] using h2
              rw [← this]; exact vat_mem (by simpa using h1)
            exact lastOf_none_all hl v hm h3
      · rw [if_neg hu]
        constructor
        · intro e; cases e
        · rintro ⟨j, h1, h2, h3, h4⟩
          cases j with
          | zero => simp [vat] at h2; subst h2; exact absurd h3 hu
          | succ j =>
            exfalso
            have hm : v ∈ s := by
              have : vat s j = v := by simpa [vat] using h2
              rw [← this]; exact vat_mem (by simpa using h1)
            exact lastOf_none_all hl v hm h3

theorem checkAux_zero {l : List Vr} (h : checkOf l = 0) {k : Nat} (hk : k ≤ l.length) : checkAux l k = 0 := by
  by_cases e : checkAux l k = 0
  · exact e
  · exfalso
    have := check_keeps e (l.length - k)
    rw [show k + (l.length - k) = l.length by omega] at this
    exact e (this.symm.trans h)
theorem wrongOf_ord {l : List Vr} {v : Vr} (h : wrongOf l v = 0) (hl : 0 < l.length) : (vat l (l.length - 1)).op ≤ v.op := by
  by_cases e : v.op < (vat l (l.length - 1)).op
  · exfalso
    unfold wrongOf at h
    rw [if_pos (show 0 < l.length ∧ v.op < (vat l (l.length - 1)).op from ⟨hl, e⟩)] at h
    split at h <;> first | (revert h; decide) | skip
    split at h <;> first | (revert h; decide) | skip
    split at h <;> (revert h; decide)
  · omega
theorem check_next {l : List Vr} (h : checkOf l = 0) {k : Nat} (hk : k + 1 < l.length) : (vat l k).op ≤ (vat l (k + 1)).op := by
  have e := check_step hk (checkAux_zero h (by omega))
  rw [checkAux_zero h (by omega)] at e
  have hl : (l.take (k + 1)).length = k + 1 := by simp; omega
  have := wrongOf_ord e.symm (by omega)
  rw [hl] at this
  have e1 : vat (l.take (k + 1)) (k + 1 - 1) = vat l k := by simp [vat]
  rwa [e1] at this
theorem check_ops {l : List Vr} (h : checkOf l = 0) (i j : Nat) (hij : i ≤ j) (hj : j < l.length) : (vat l i).op ≤ (vat l j).op := by
  induction j with
  | zero => obtain rfl : i = 0 := by omega
            exact Int.le_refl _
  | succ j ih =>
    by_cases e : i = j + 1
    · subst e; exact Int.le_refl _
    · exact Int.le_trans (ih (by omega) (by omega)) (check_next h hj)

/-- What the reference's At has gathered after the first i versions of s. -/
structure RAt (s : List Vr) (i : Nat) (out : List Fc) : Prop where
  sorted : out.Pairwise fun a b => a.en < b.en
  mem : ∀ f, f ∈ out ↔ ∃ j, j < i ∧ (vat s j).fc = f ∧ (vat s j).st = false ∧ lastOf (s.drop (j + 1)) f.en = none
  len : out.length ≤ i
theorem RAt.nil (s : List Vr) : RAt s 0 [] := ⟨List.Pairwise.nil, fun f => by simp, Nat.le_refl _⟩
theorem RAt.skip {s : List Vr} {i : Nat} {out : List Fc} (h : RAt s i out) (hs : (vat s i).st = true ∨ lastOf (s.drop (i + 1)) (vat s i).fc.en ≠ none) : RAt s (i + 1) out :=
  ⟨h.sorted, fun f => by
    rw [h.mem]
    constructor
    · rintro ⟨j, h1, h2⟩; exact ⟨j, by omega, h2⟩
    · rintro ⟨j, h1, h2, h3, h4⟩
      by_cases e : j = i
      · subst e; subst h2
        rcases hs with hs | hs
        · rw [hs] at h3; cases h3
        · exact absurd h4 hs
      · exact ⟨j, by omega, h2, h3, h4⟩, Nat.le_succ_of_le h.len⟩
theorem RAt.ins {s : List Vr} {i : Nat} {out : List Fc} (h : RAt s i out) (hi : i < s.length) (hst : (vat s i).st = false) (hl : lastOf (s.drop (i + 1)) (vat s i).fc.en = none) {k : Nat} (hk : k ≤ out.length)
    (h1 : ∀ j, j < k → (fat out j).en < (vat s i).fc.en) (h2 : k < out.length → ¬ (fat out k).en < (vat s i).fc.en) : RAt s (i + 1) (out.take k ++ [(vat s i).fc] ++ out.drop k) := by
  have hne : ∀ g ∈ out, g.en ≠ (vat s i).fc.en := fun g hg e => by
    obtain ⟨j, j1, j2, j3, j4⟩ := (h.mem g).1 hg
    refine lastOf_none_all j4 (vat s i) ?_ e.symm
    have e1 : vat (s.drop (j + 1)) (i - (j + 1)) = vat s i := by simp [vat, show j + 1 + (i - (j + 1)) = i by omega]
    rw [← e1]
    exact vat_mem (by simp; omega)
  have hsp := h.sorted
  rw [← List.take_append_drop k out] at hsp
  have hsp2 := List.pairwise_append.1 hsp
  have ha : ∀ x ∈ out.take k, x.en < (vat s i).fc.en := fun x hx => by
    obtain ⟨j, hj, rfl⟩ := mem_fat hx
    simp only [List.length_take] at hj
    have hj' : j < k := by omega
    have e1 : fat (out.take k) j = fat out j := by simp [fat, hj']
    rw [e1]; exact h1 j hj'
  have hb : ∀ y ∈ out.drop k, (vat s i).fc.en < y.en := fun y hy => by
    by_cases hkl : k < out.length
    · have e0 : out.drop k = fat out k :: out.drop (k + 1) := by rw [List.drop_eq_getElem_cons hkl]; simp [fat, hkl]
      have h3 := h2 hkl
      have h4 := hne (fat out k) (fat_mem hkl)
      rw [e0] at hy hsp2
      have h5 := List.pairwise_cons.1 hsp2.2.1
      rcases List.mem_cons.1 hy with e | e
      · subst e; omega
      · have := h5.1 y e; omega
    · rw [List.drop_eq_nil_of_le (by omega)] at hy; cases hy
  refine ⟨?_, fun f => ?_, ?_⟩
  · rw [List.append_assoc, List.pairwise_append, List.singleton_append, List.pairwise_cons]
    refine ⟨hsp2.1, ⟨hb, hsp2.2.1⟩, fun a ha' b hb' => ?_⟩
    rcases List.mem_cons.1 hb' with e | e
    · subst e; exact ha a ha'
    · have := ha a ha'; have := hb b e; omega
  · have hm : f ∈ out.take k ++ [(vat s i).fc] ++ out.drop k ↔ f ∈ out ∨ f = (vat s i).fc := by
      conv => rhs; rw [← List.take_append_drop k out]
      simp only [List.mem_append, List.mem_singleton]
      constructor
      · rintro ((a | a) | a) <;> simp [a]
      · rintro ((a | a) | a) <;> simp [a]
    rw [hm, h.mem]
    constructor
    · rintro (⟨j, a, b⟩ | rfl)
      · exact ⟨j, by omega, b⟩
      · exact ⟨i, by omega, rfl, hst, hl⟩
    · rintro ⟨j, a, b, c⟩
      by_cases e : j = i
      · subst e; exact .inr b.symm
      · exact .inl ⟨j, by omega, b, c⟩
  · have := h.len
    simp; omega
theorem RAt.done {l : List Vr} {op : Int} {out : List Fc} (h : RAt (upto l op) (upto l op).length out) : IsAt l op out :=
  ⟨h.sorted, fun f => by
    rw [h.mem]
    constructor
    · rintro ⟨j, a, b, c, d⟩
      exact ⟨vat (upto l op) j, lastOf_some_iff.2 ⟨j, a, rfl, by rw [b], d⟩, c, b⟩
    · rintro ⟨v, a, b, c⟩
      obtain ⟨j, h1, h2, h3, h4⟩ := lastOf_some_iff.1 a
      exact ⟨j, h1, by rw [h2]; exact c, by rw [h2]; exact b, h4⟩⟩
end Go.Proofs.Ythjjdeabfnlbjaa
